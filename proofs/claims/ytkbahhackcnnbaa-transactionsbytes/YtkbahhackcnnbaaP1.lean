/-
  Closed facts about the types of this seat, written by a program (gentypes.py).
-/
import Derived.Test.YtkbahhackcnnbaaProg
import Derived.Test.YtkbahhackcnnbaaV3
import Derived.KernelRfl
namespace Go.Proofs
open Go.V

theorem Try.vt3 : vt Try.prog 3 = some none := by kernel_rfl
theorem Try.vkind3 : vkind Try.prog 3 = .int .i64 := by kernel_rfl
theorem Try.vzero3 : vzero Try.prog 3 = some [.pv (.lit (.int .i64 0))] := by kernel_rfl
theorem Try.bytes3 : bytesT Try.prog 3 = some 8 := by kernel_rfl
theorem Try.vt4 : vt Try.prog 4 = some none := by kernel_rfl
theorem Try.vkind4 : vkind Try.prog 4 = .bool := by kernel_rfl
theorem Try.vt5 : vt Try.prog 5 = some none := by kernel_rfl
theorem Try.vkind5 : vkind Try.prog 5 = .int .u8 := by kernel_rfl
theorem Try.vzero5 : vzero Try.prog 5 = some [.pv (.lit (.int .u8 0))] := by kernel_rfl
theorem Try.bytes5 : bytesT Try.prog 5 = some 1 := by kernel_rfl
theorem Try.vt9 : vt Try.prog 9 = some none := by kernel_rfl
theorem Try.notInt9 : notInt Try.prog 9 = true := by kernel_rfl
theorem Try.vkind9 : vkind Try.prog 9 = .str := by kernel_rfl
theorem Try.vzero9 : vzero Try.prog 9 = some [.pv (.str [])] := by kernel_rfl
theorem Try.vt22 : vt Try.prog 22 = some none := by kernel_rfl
theorem Try.velem22 : velem Try.prog 22 = some (none, 5, 1) := by kernel_rfl
theorem Try.notInt22 : notInt Try.prog 22 = true := by kernel_rfl
theorem Try.vkind22 : vkind Try.prog 22 = .sl 5 := by kernel_rfl
theorem Try.vt23 : vt Try.prog 23 = some none := by kernel_rfl
theorem Try.velem23 : velem Try.prog 23 = some (none, 52, 6) := by kernel_rfl
theorem Try.notInt23 : notInt Try.prog 23 = true := by kernel_rfl
theorem Try.vkind23 : vkind Try.prog 23 = .sl 52 := by kernel_rfl
theorem Try.vzero23 : vzero Try.prog 23 = some [.pv (.slc [])] := by kernel_rfl
theorem Try.vt25 : vt Try.prog 25 = some (some 2) := by kernel_rfl
theorem Try.vfield25x0 : vfield Try.prog 25 0 = some (4, 0, 1) := by kernel_rfl
theorem Try.vfield25x1 : vfield Try.prog 25 1 = some (9, 1, 1) := by kernel_rfl
theorem Try.vt27 : vt Try.prog 27 = some (some 6) := by kernel_rfl
theorem Try.vfield27x0 : vfield Try.prog 27 0 = some (3, 0, 1) := by kernel_rfl
theorem Try.vfield27x1 : vfield Try.prog 27 1 = some (3, 1, 1) := by kernel_rfl
theorem Try.vfield27x2 : vfield Try.prog 27 2 = some (25, 2, 2) := by kernel_rfl
theorem Try.vfield27x3 : vfield Try.prog 27 3 = some (25, 4, 2) := by kernel_rfl
theorem Try.vplaces27 : vplaces Try.prog 27 = some fun j => ([(0, 1), (1, 1), (2, 2), (4, 2)] : List (Nat × Nat))[j]? := by kernel_rfl
theorem Try.vzero27 : vzero Try.prog 27 = some [.pv (.lit (.int .i64 0)), .pv (.lit (.int .i64 0)), .pv (.lit (.bool false)), .pv (.str []), .pv (.lit (.bool false)), .pv (.str [])] := by kernel_rfl
theorem Try.leaves27 : leaves Try.prog 8 27 = some [(0, 1), (1, 1), (2, 0), (3, 2), (4, 0), (5, 2)] := by kernel_rfl
theorem Try.eqg27 : Try.prog.eqGuardType Try.prog.depth 27 = false := by kernel_rfl
theorem Try.vt29 : vt Try.prog 29 = some (some 13) := by kernel_rfl
theorem Try.vfield29x0 : vfield Try.prog 29 0 = some (3, 0, 1) := by kernel_rfl
theorem Try.vfield29x1 : vfield Try.prog 29 1 = some (3, 1, 1) := by kernel_rfl
theorem Try.vfield29x2 : vfield Try.prog 29 2 = some (3, 2, 1) := by kernel_rfl
theorem Try.vfield29x3 : vfield Try.prog 29 3 = some (3, 3, 1) := by kernel_rfl
theorem Try.vfield29x4 : vfield Try.prog 29 4 = some (3, 4, 1) := by kernel_rfl
theorem Try.vfield29x5 : vfield Try.prog 29 5 = some (3, 5, 1) := by kernel_rfl
theorem Try.vfield29x6 : vfield Try.prog 29 6 = some (27, 6, 6) := by kernel_rfl
theorem Try.vfield29x7 : vfield Try.prog 29 7 = some (9, 12, 1) := by kernel_rfl
theorem Try.vplaces29 : vplaces Try.prog 29 = some fun j => ([(0, 1), (1, 1), (2, 1), (3, 1), (4, 1), (5, 1), (6, 6), (12, 1)] : List (Nat × Nat))[j]? := by kernel_rfl
theorem Try.vzero29 : vzero Try.prog 29 = some [.pv (.lit (.int .i64 0)), .pv (.lit (.int .i64 0)), .pv (.lit (.int .i64 0)), .pv (.lit (.int .i64 0)), .pv (.lit (.int .i64 0)), .pv (.lit (.int .i64 0)), .pv (.lit (.int .i64 0)), .pv (.lit (.int .i64 0)), .pv (.lit (.bool false)), .pv (.str []), .pv (.lit (.bool false)), .pv (.str []), .pv (.str [])] := by kernel_rfl
theorem Try.leaves29 : leaves Try.prog 8 29 = some [(0, 1), (1, 1), (2, 1), (3, 1), (4, 1), (5, 1), (6, 1), (7, 1), (8, 0), (9, 2), (10, 0), (11, 2), (12, 2)] := by kernel_rfl
theorem Try.eqg29 : Try.prog.eqGuardType Try.prog.depth 29 = false := by kernel_rfl
theorem Try.velem36 : velem Try.prog 36 = some (none, 23, 1) := by kernel_rfl
theorem Try.vkind36 : vkind Try.prog 36 = .sl 23 := by kernel_rfl
theorem Try.velem40 : velem Try.prog 40 = some (none, 29, 13) := by kernel_rfl
theorem Try.vkind40 : vkind Try.prog 40 = .sl 29 := by kernel_rfl
theorem Try.vt45 : vt Try.prog 45 = some none := by kernel_rfl
theorem Try.velem45 : velem Try.prog 45 = some (none, 3, 1) := by kernel_rfl
theorem Try.notInt45 : notInt Try.prog 45 = true := by kernel_rfl
theorem Try.vkind45 : vkind Try.prog 45 = .sl 3 := by kernel_rfl
theorem Try.vt52 : vt Try.prog 52 = some (some 6) := by kernel_rfl
theorem Try.vfield52x0 : vfield Try.prog 52 0 = some (3, 0, 1) := by kernel_rfl
theorem Try.vfield52x1 : vfield Try.prog 52 1 = some (3, 1, 1) := by kernel_rfl
theorem Try.vfield52x2 : vfield Try.prog 52 2 = some (3, 2, 1) := by kernel_rfl
theorem Try.vfield52x3 : vfield Try.prog 52 3 = some (3, 3, 1) := by kernel_rfl
theorem Try.vfield52x4 : vfield Try.prog 52 4 = some (45, 4, 1) := by kernel_rfl
theorem Try.vfield52x5 : vfield Try.prog 52 5 = some (45, 5, 1) := by kernel_rfl
theorem Try.vplaces52 : vplaces Try.prog 52 = some fun j => ([(0, 1), (1, 1), (2, 1), (3, 1), (4, 1), (5, 1)] : List (Nat × Nat))[j]? := by kernel_rfl
theorem Try.vzero52 : vzero Try.prog 52 = some [.pv (.lit (.int .i64 0)), .pv (.lit (.int .i64 0)), .pv (.lit (.int .i64 0)), .pv (.lit (.int .i64 0)), .pv (.slc []), .pv (.slc [])] := by kernel_rfl
theorem Try.bytes52 : bytesT Try.prog 52 = some 80 := by kernel_rfl
theorem Try.velem57 : velem Try.prog 57 = some (none, 9, 1) := by kernel_rfl
theorem Try.vkind57 : vkind Try.prog 57 = .sl 9 := by kernel_rfl
theorem Try.vfield62x0 : vfield Try.prog 62 0 = some (22, 0, 1) := by kernel_rfl
theorem Try.vfield62x1 : vfield Try.prog 62 1 = some (3, 1, 1) := by kernel_rfl
theorem Try.vplaces62 : vplaces Try.prog 62 = some fun j => ([(0, 1), (1, 1)] : List (Nat × Nat))[j]? := by kernel_rfl
theorem Try.vzero62 : vzero Try.prog 62 = some [.pv (.slc []), .pv (.lit (.int .i64 0))] := by kernel_rfl
theorem Try.vt66 : vt Try.prog 66 = some none := by kernel_rfl
theorem Try.vfield89x0 : vfield Try.prog 89 0 = some (9, 0, 1) := by kernel_rfl
theorem Try.vfield89x1 : vfield Try.prog 89 1 = some (3, 1, 1) := by kernel_rfl
theorem Try.vfield89x2 : vfield Try.prog 89 2 = some (4, 2, 1) := by kernel_rfl
theorem Try.vplaces89 : vplaces Try.prog 89 = some fun j => ([(0, 1), (1, 1), (2, 1)] : List (Nat × Nat))[j]? := by kernel_rfl
theorem Try.vzero89 : vzero Try.prog 89 = some [.pv (.str []), .pv (.lit (.int .i64 0)), .pv (.lit (.bool false))] := by kernel_rfl
theorem Try.vfield93x0 : vfield Try.prog 93 0 = some (9, 0, 1) := by kernel_rfl
theorem Try.vfield93x1 : vfield Try.prog 93 1 = some (3, 1, 1) := by kernel_rfl
theorem Try.vfield93x2 : vfield Try.prog 93 2 = some (4, 2, 1) := by kernel_rfl
theorem Try.vplaces93 : vplaces Try.prog 93 = some fun j => ([(0, 1), (1, 1), (2, 1)] : List (Nat × Nat))[j]? := by kernel_rfl
theorem Try.vzero93 : vzero Try.prog 93 = some [.pv (.str []), .pv (.lit (.int .i64 0)), .pv (.lit (.bool false))] := by kernel_rfl
theorem Try.vt96 : vt Try.prog 96 = some none := by kernel_rfl
theorem Try.vt98 : vt Try.prog 98 = some (some 7) := by kernel_rfl
theorem Try.vfield98x0 : vfield Try.prog 98 0 = some (4, 0, 1) := by kernel_rfl
theorem Try.vfield98x1 : vfield Try.prog 98 1 = some (4, 1, 1) := by kernel_rfl
theorem Try.vfield98x2 : vfield Try.prog 98 2 = some (4, 2, 1) := by kernel_rfl
theorem Try.vfield98x3 : vfield Try.prog 98 3 = some (4, 3, 1) := by kernel_rfl
theorem Try.vfield98x4 : vfield Try.prog 98 4 = some (4, 4, 1) := by kernel_rfl
theorem Try.vfield98x5 : vfield Try.prog 98 5 = some (66, 5, 1) := by kernel_rfl
theorem Try.vfield98x6 : vfield Try.prog 98 6 = some (96, 6, 1) := by kernel_rfl
theorem Try.vplaces98 : vplaces Try.prog 98 = some fun j => ([(0, 1), (1, 1), (2, 1), (3, 1), (4, 1), (5, 1), (6, 1)] : List (Nat × Nat))[j]? := by kernel_rfl
theorem Try.vzero98 : vzero Try.prog 98 = some [.pv (.lit (.bool false)), .pv (.lit (.bool false)), .pv (.lit (.bool false)), .pv (.lit (.bool false)), .pv (.lit (.bool false)), .pv (.lit .nilFunc), .pv (.lit .nilFunc)] := by kernel_rfl
theorem Try.vt99 : vt Try.prog 99 = some (some 63) := by kernel_rfl
theorem Try.velem99 : velem Try.prog 99 = some (some 9, 98, 7) := by kernel_rfl
theorem Try.vplaces99 : vplaces Try.prog 99 = some fun j => some (j * 7, 7) := by kernel_rfl
theorem Try.vzero99 : vzero Try.prog 99 = some [.pv (.lit (.bool false)), .pv (.lit (.bool false)), .pv (.lit (.bool false)), .pv (.lit (.bool false)), .pv (.lit (.bool false)), .pv (.lit .nilFunc), .pv (.lit .nilFunc), .pv (.lit (.bool false)), .pv (.lit (.bool false)), .pv (.lit (.bool false)), .pv (.lit (.bool false)), .pv (.lit (.bool false)), .pv (.lit .nilFunc), .pv (.lit .nilFunc), .pv (.lit (.bool false)), .pv (.lit (.bool false)), .pv (.lit (.bool false)), .pv (.lit (.bool false)), .pv (.lit (.bool false)), .pv (.lit .nilFunc), .pv (.lit .nilFunc), .pv (.lit (.bool false)), .pv (.lit (.bool false)), .pv (.lit (.bool false)), .pv (.lit (.bool false)), .pv (.lit (.bool false)), .pv (.lit .nilFunc), .pv (.lit .nilFunc), .pv (.lit (.bool false)), .pv (.lit (.bool false)), .pv (.lit (.bool false)), .pv (.lit (.bool false)), .pv (.lit (.bool false)), .pv (.lit .nilFunc), .pv (.lit .nilFunc), .pv (.lit (.bool false)), .pv (.lit (.bool false)), .pv (.lit (.bool false)), .pv (.lit (.bool false)), .pv (.lit (.bool false)), .pv (.lit .nilFunc), .pv (.lit .nilFunc), .pv (.lit (.bool false)), .pv (.lit (.bool false)), .pv (.lit (.bool false)), .pv (.lit (.bool false)), .pv (.lit (.bool false)), .pv (.lit .nilFunc), .pv (.lit .nilFunc), .pv (.lit (.bool false)), .pv (.lit (.bool false)), .pv (.lit (.bool false)), .pv (.lit (.bool false)), .pv (.lit (.bool false)), .pv (.lit .nilFunc), .pv (.lit .nilFunc), .pv (.lit (.bool false)), .pv (.lit (.bool false)), .pv (.lit (.bool false)), .pv (.lit (.bool false)), .pv (.lit (.bool false)), .pv (.lit .nilFunc), .pv (.lit .nilFunc)] := by kernel_rfl
theorem Try.vkind101 : vkind Try.prog 101 = .int .u64 := by kernel_rfl
theorem Try.vt108 : vt Try.prog 108 = some none := by kernel_rfl
theorem Try.vfield110x0 : vfield Try.prog 110 0 = some (108, 0, 1) := by kernel_rfl
theorem Try.vfield110x1 : vfield Try.prog 110 1 = some (22, 1, 1) := by kernel_rfl
theorem Try.vzero110 : vzero Try.prog 110 = some [.pv (.lit (.pointer none)), .pv (.slc [])] := by kernel_rfl
theorem Try.vkind116 : vkind Try.prog 116 = .int .u64 := by kernel_rfl
attribute [go_sem] Try.vt3 Try.vkind3 Try.vzero3 Try.bytes3 Try.vt4 Try.vkind4 Try.vt5 Try.vkind5 Try.vzero5 Try.bytes5 Try.vt9 Try.notInt9 Try.vkind9 Try.vzero9 Try.vt22 Try.velem22 Try.notInt22 Try.vkind22 Try.vt23 Try.velem23 Try.notInt23 Try.vkind23 Try.vzero23 Try.vt25 Try.vfield25x0 Try.vfield25x1 Try.vt27 Try.vfield27x0 Try.vfield27x1 Try.vfield27x2 Try.vfield27x3 Try.vplaces27 Try.vzero27 Try.leaves27 Try.eqg27 Try.vt29 Try.vfield29x0 Try.vfield29x1 Try.vfield29x2 Try.vfield29x3 Try.vfield29x4 Try.vfield29x5 Try.vfield29x6 Try.vfield29x7 Try.vplaces29 Try.vzero29 Try.leaves29 Try.eqg29 Try.velem36 Try.vkind36 Try.velem40 Try.vkind40 Try.vt45 Try.velem45 Try.notInt45 Try.vkind45 Try.vt52 Try.vfield52x0 Try.vfield52x1 Try.vfield52x2 Try.vfield52x3 Try.vfield52x4 Try.vfield52x5 Try.vplaces52 Try.vzero52 Try.bytes52 Try.velem57 Try.vkind57 Try.vfield62x0 Try.vfield62x1 Try.vplaces62 Try.vzero62 Try.vt66 Try.vfield89x0 Try.vfield89x1 Try.vfield89x2 Try.vplaces89 Try.vzero89 Try.vfield93x0 Try.vfield93x1 Try.vfield93x2 Try.vplaces93 Try.vzero93 Try.vt96 Try.vt98 Try.vfield98x0 Try.vfield98x1 Try.vfield98x2 Try.vfield98x3 Try.vfield98x4 Try.vfield98x5 Try.vfield98x6 Try.vplaces98 Try.vzero98 Try.vt99 Try.velem99 Try.vplaces99 Try.vzero99 Try.vkind101 Try.vt108 Try.vfield110x0 Try.vfield110x1 Try.vzero110 Try.vkind116

end Go.Proofs

namespace Go.Proofs.Ytkbahhackcnnbaa
open Go.V Go
set_option maxRecDepth 100000
set_option linter.unusedSimpArgs false

/-- A transaction of a table. -/
structure Tx where
  id : Int
  st : Int
  n : Int
  b : Int
  l : List Int
  s : List Int
def encT : Enc Tx := ⟨6, fun t => [.lit (.int .i64 t.id), .lit (.int .i64 t.st), .lit (.int .i64 t.n), .lit (.int .i64 t.b), .sl (fz encI t.l), .sl (fz encI t.s)], by decide, fun _ => rfl⟩
def Tx.d (t : Tx) : List DV := [.int .i64 t.id, .int .i64 t.st, .int .i64 t.n, .int .i64 t.b, .pv (.sl (fz encI t.l)), .pv (.sl (fz encI t.s))]
theorem getD_eq {α : Type} (l : List α) (i : Nat) (h : i < l.length) (d : α) : l.getD i d = l[i] := by rw [List.getD_eq_getElem?_getD, List.getElem?_eq_getElem h]; rfl
structure Okay (n : Nat) (c : Nat → Bool) where
  i : Nat
  hi : i ≤ n
  ok : ∀ k, k < i → c k = true
def Okay.start (n : Nat) (c : Nat → Bool) : Okay n c := ⟨0, Nat.zero_le _, fun k h => by omega⟩
def Okay.next {n : Nat} {c : Nat → Bool} (s : Okay n c) (h : s.i < n) (hc : c s.i = true) : Okay n c := ⟨s.i + 1, h, fun k hk => by
  rcases Nat.lt_or_ge k s.i with hlt | hge
  · exact s.ok k hlt
  · obtain rfl : k = s.i := by omega
    exact hc⟩
theorem Okay.all {n : Nat} {c : Nat → Bool} (s : Okay n c) (h : ¬ s.i < n) : (List.range n).all c = true := by
  rw [List.all_eq_true]
  intro k hk
  rw [List.mem_range] at hk
  exact s.ok k (by omega)
theorem all_not {n : Nat} {c : Nat → Bool} {i : Nat} (h : i < n) (hc : c i = false) : (List.range n).all c = false := by
  rw [List.all_eq_false]
  exact ⟨i, List.mem_range.2 h, by rw [hc]; decide⟩
def ascC (l : List Int) (lo hi d : Int) (i : Nat) : Bool := decide (lo ≤ l.getD i 0) && decide (l.getD i 0 ≤ hi) && (decide (i = 0) || decide (l.getD (i - 1) 0 + d ≤ l.getD i 0))
/-- A list that goes up by steps of d or more. -/
def ascB (l : List Int) (lo hi d : Int) : Bool := (List.range l.length).all (ascC l lo hi d)
theorem ascC_iff (l : List Int) (lo hi d : Int) (i : Nat) : ascC l lo hi d i = true ↔ lo ≤ l.getD i 0 ∧ l.getD i 0 ≤ hi ∧ (i = 0 ∨ l.getD (i - 1) 0 + d ≤ l.getD i 0) := by
  simp only [ascC, Bool.and_eq_true, Bool.or_eq_true, decide_eq_true_eq, and_assoc]
set_option maxHeartbeats 1000000 in
theorem ascending_v (l : List Int) (hl : l.length ≤ 1000000) (lo hi d : Int) (h1 : 0 ≤ lo) (h2 : hi ≤ 1099511627776) (h3 : 0 ≤ d ∧ d ≤ 1) : VCalls Try.prog 65 [.pv (.sl (fz encI l)), .int .i64 lo, .int .i64 hi, .int .i64 d] [] (Ret (.bool (ascB l lo hi d))) := by
  refine vcalls_drop (fn := Try.f65) Try.func65 rfl (by kernel_rfl) (by simp [Try.f65]) ?_
  simp (config := { maxSteps := 2000000 }) (implicitDefEqProofs := false) (disch := first | omega | assumption | (simp only []; done) | fail) only [go_sem, Nat.reduceAdd, Nat.reduceBEq, Int.reduceAdd, Int.reduceBEq, Try.f65]
  refine vloopW (fun s : Okay l.length (ascC l lo hi d) => ⟨42, 0, [(13, .int .i64 s.i), (12, .int .i64 l.length), (11, .pv (.sl (fz encI l))), (3, .int .i64 d), (2, .int .i64 hi), (1, .int .i64 lo), (0, .pv (.sl (fz encI l)))], []⟩) (fun s => l.length - s.i) (Okay.start _ _) (.inl (by refine ⟨rfl, rfl, by simp, ?_, ?_, .inr ⟨?_, ?_⟩⟩ <;> (repeat' apply And.intro) <;> first | rfl | trivial | (intro _; first | rfl | apply cells_refs))) ?_
  intro s
  have hsi := s.hi
  have hprev : 0 < s.i → ascC l lo hi d (s.i - 1) = true := fun h => s.ok _ (by omega)
  simp only [ascC_iff] at hprev
  have hg := fun h : s.i < l.length => fzI_get l s.i h
  have hgp : 0 < (s.i : Int) → (s.i : Int) < l.length → (fz encI l)[((s.i : Int) - 1).toNat]? = some [.lit (.int .i64 (l.getD (s.i - 1) 0))] := fun h h2 => by
    rw [show ((s.i : Int) - 1).toNat = s.i - 1 by omega]; exact fzI_get l (s.i - 1) (by omega)
  (try simp (config := { maxSteps := 2000000 }) (implicitDefEqProofs := false) (disch := first | omega | assumption | (simp only []; done) | fail) only [go_sem, Nat.reduceBEq, Int.reduceBEq])
  repeat' (first
    | (refine vrunG_split (fun hZ => ?_) (fun hZ => ?_) <;> (try rw [hZ]) <;> (try simp only [decide_eq_true_eq, decide_eq_false_iff_not, Bool.or_eq_true, Bool.and_eq_true, Bool.or_eq_false_iff, Bool.and_eq_false_imp, Bool.not_eq_true', Bool.not_eq_false', beq_iff_eq, beq_eq_false_iff_ne, bne_iff_ne, bne_eq_false_iff_eq, ne_eq, Bool.not_eq_eq_eq_not, Bool.not_true, Bool.not_false] at hZ) <;> (try (first | rw [(hZ : _ = false)] | rw [(hZ : _ = true)])) <;> (try simp (config := { maxSteps := 2000000 }) (implicitDefEqProofs := false) (disch := first | omega | assumption | (simp only [List.length_cons, List.length_nil, Nat.zero_add]; done) | fail) only [go_sem, Nat.reduceLT, Nat.reduceBEq, Int.reduceLT, Int.reduceBEq, hgp]))
    | (refine vbr_split (fun hZ => ?_) (fun hZ => ?_) <;> (try rw [hZ]) <;> (try simp only [decide_eq_true_eq, decide_eq_false_iff_not, Bool.or_eq_true, Bool.and_eq_true, Bool.or_eq_false_iff, Bool.and_eq_false_imp, Bool.not_eq_true', Bool.not_eq_false', beq_iff_eq, beq_eq_false_iff_ne, bne_iff_ne, bne_eq_false_iff_eq, ne_eq, Bool.not_eq_eq_eq_not, Bool.not_true, Bool.not_false] at hZ) <;> (try (first | rw [(hZ : _ = false)] | rw [(hZ : _ = true)])) <;> (try simp (config := { maxSteps := 2000000 }) (implicitDefEqProofs := false) (disch := first | omega | assumption | (simp only [List.length_cons, List.length_nil, Nat.zero_add]; done) | fail) only [go_sem, ↓reduceIte, Nat.reduceLT, Nat.reduceBEq, Int.reduceLT, Int.reduceBEq, hg]))
    | (refine vdrG_split (fun hZ => ?_) (fun hZ => ?_) <;> (try rw [hZ]) <;> (try simp only [decide_eq_true_eq, decide_eq_false_iff_not, Bool.or_eq_true, Bool.and_eq_true, Bool.or_eq_false_iff, Bool.and_eq_false_imp, Bool.not_eq_true', Bool.not_eq_false', beq_iff_eq, beq_eq_false_iff_ne, bne_iff_ne, bne_eq_false_iff_eq, ne_eq, Bool.not_eq_eq_eq_not, Bool.not_true, Bool.not_false] at hZ) <;> (try (first | rw [(hZ : _ = false)] | rw [(hZ : _ = true)])) <;> skip)
    )
  all_goals first
    | (rw [ascB, all_not (i := s.i) (by omega) (Bool.eq_false_iff.2 fun h => by rw [ascC_iff] at h; omega)])
    | (exact ⟨s.next (by omega) ((ascC_iff _ _ _ _ _).2 (by omega)), by show l.length - (s.i + 1) < l.length - s.i; omega, (by refine gc_of (keep := []) rfl rfl rfl (by decide) ?_ ?_ <;> (repeat' apply And.intro) <;> first | trivial | rfl | exact ⟨_, rfl, rfl, rfl, .inl ⟨rfl, rfl⟩⟩ | exact ⟨_, rfl, rfl, rfl, .inl ⟨cells_nums _ _ _, rfl⟩⟩ | exact ⟨_, rfl, rfl, rfl, .inl ⟨pvs_nums _ _, rfl⟩⟩ | exact ⟨_, rfl, rfl, rfl, .inr ⟨rfl, rfl⟩⟩)⟩)
    | (rw [ascB, s.all (by omega)])
    | skip
end Go.Proofs.Ytkbahhackcnnbaa

namespace Go.Proofs.Ytkbahhackcnnbaa
open Go.V Go
set_option maxRecDepth 100000
set_option linter.unusedSimpArgs false

def Tx.sm (t : Tx) : Prop := t.l.length ≤ 9223372036854775807 ∧ t.s.length ≤ 9223372036854775807
def Tx.hdB (t : Tx) : Bool := decide (1 ≤ t.id) && decide (t.id ≤ 1073741824) && decide (1 ≤ t.st) && decide (t.st ≤ 3) && decide (0 ≤ t.n) && decide (t.n ≤ 1099511627776) && (decide (t.b = 0) || (decide (t.st = 2) && decide (0 < t.b) && decide (t.b ≤ t.n))) && decide (t.l.length ≤ 4096) && decide (t.s.length ≤ 8)
def Tx.okB (t : Tx) : Bool := t.hdB && ascB t.l 1 t.n 1 && ascB t.s 0 t.n 0
set_option maxHeartbeats 4000000 in
theorem right_v (t : Tx) (hs : t.sm) : VCalls Try.prog 34 [.agg t.d] [] (Ret (.bool t.okB)) := by
  refine vcalls_drop (fn := Try.f34) Try.func34 rfl (by kernel_rfl) (by simp [Try.f34]) ?_
  obtain ⟨id, st, n, b, l, s⟩ := t
  obtain ⟨hs1, hs2⟩ := hs
  have h1 := fun (h0 : l.length ≤ 4096) h => ascending_v l (by omega) 1 n 1 (by omega) h (by omega)
  have h2 := fun (h0 : s.length ≤ 8) h => ascending_v s (by omega) 0 n 0 (by omega) h (by omega)
  have e : (⟨id, st, n, b, l, s⟩ : Tx).okB = ((⟨id, st, n, b, l, s⟩ : Tx).hdB && ascB l 1 n 1 && ascB s 0 n 0) := rfl
  have eh : (⟨id, st, n, b, l, s⟩ : Tx).hdB = (decide (1 ≤ id) && decide (id ≤ 1073741824) && decide (1 ≤ st) && decide (st ≤ 3) && decide (0 ≤ n) && decide (n ≤ 1099511627776) && (decide (b = 0) || (decide (st = 2) && decide (0 < b) && decide (b ≤ n))) && decide (l.length ≤ 4096) && decide (s.length ≤ 8)) := rfl
  have no : ¬ (⟨id, st, n, b, l, s⟩ : Tx).hdB = true → (⟨id, st, n, b, l, s⟩ : Tx).okB = false := fun h => by rw [e, Bool.eq_false_iff.2 h]; rfl
  simp only [Bool.eq_false_iff] at no
  generalize (⟨id, st, n, b, l, s⟩ : Tx).hdB = H at *
  generalize (⟨id, st, n, b, l, s⟩ : Tx).okB = K at *
  dsimp only [Tx.d]
  generalize ascB l 1 n 1 = P at *
  generalize ascB s 0 n 0 = Q at *
  simp (config := { maxSteps := 2000000 }) (implicitDefEqProofs := false) (disch := first | omega | assumption | (simp only []; done) | fail) only [go_sem, ↓reduceIte, reduceCtorEq, Nat.reduceBEq, Int.reduceBEq, Try.f34]
  skip
  repeat' (first
    | (refine vrunG_split (fun hZ => ?_) (fun hZ => ?_) <;> (try rw [hZ]) <;> (try simp only [decide_eq_true_eq, decide_eq_false_iff_not, Bool.or_eq_true, Bool.and_eq_true, Bool.or_eq_false_iff, Bool.and_eq_false_imp, Bool.not_eq_true', Bool.not_eq_false', beq_iff_eq, beq_eq_false_iff_ne, bne_iff_ne, bne_eq_false_iff_eq, ne_eq, Bool.not_eq_eq_eq_not, Bool.not_true, Bool.not_false] at hZ) <;> (try (first | rw [(hZ : _ = false)] | rw [(hZ : _ = true)])) <;> (try simp (config := { maxSteps := 2000000 }) (implicitDefEqProofs := false) (disch := first | omega | assumption | (simp only []; done) | fail) only [go_sem, ↓reduceIte, reduceCtorEq, Nat.reduceLT, Nat.reduceBEq, Int.reduceLT, Int.reduceBEq]))
    | (refine vbr_split (fun hZ => ?_) (fun hZ => ?_) <;> (try rw [hZ]) <;> (try simp only [decide_eq_true_eq, decide_eq_false_iff_not, Bool.or_eq_true, Bool.and_eq_true, Bool.or_eq_false_iff, Bool.and_eq_false_imp, Bool.not_eq_true', Bool.not_eq_false', beq_iff_eq, beq_eq_false_iff_ne, bne_iff_ne, bne_eq_false_iff_eq, ne_eq, Bool.not_eq_eq_eq_not, Bool.not_true, Bool.not_false] at hZ) <;> (try (first | rw [(hZ : _ = false)] | rw [(hZ : _ = true)])) <;> skip)
    | (refine vdrG_split (fun hZ => ?_) (fun hZ => ?_) <;> (try rw [hZ]) <;> (try simp only [decide_eq_true_eq, decide_eq_false_iff_not, Bool.or_eq_true, Bool.and_eq_true, Bool.or_eq_false_iff, Bool.and_eq_false_imp, Bool.not_eq_true', Bool.not_eq_false', beq_iff_eq, beq_eq_false_iff_ne, bne_iff_ne, bne_eq_false_iff_eq, ne_eq, Bool.not_eq_eq_eq_not, Bool.not_true, Bool.not_false] at hZ) <;> (try (first | rw [(hZ : _ = false)] | rw [(hZ : _ = true)])) <;> skip)
    | (refine vc_pure (h1 (by omega) (by omega)) rfl ?_; (try simp (config := { maxSteps := 2000000 }) (implicitDefEqProofs := false) (disch := first | omega | assumption | (simp only []; done) | fail) only [go_sem, Nat.reduceBEq, Int.reduceBEq]))
    | (refine vc_pure (h2 (by omega) (by omega)) rfl ?_; (try simp (config := { maxSteps := 2000000 }) (implicitDefEqProofs := false) (disch := first | omega | assumption | (simp only []; done) | fail) only [go_sem, Nat.reduceLT, Nat.reduceBEq, Int.reduceLT, Int.reduceBEq]))
    )
  all_goals first
    | (rw [e, show P = true from by assumption, show H = true from by rw [eh]; simp only [Bool.and_eq_true, Bool.or_eq_true, decide_eq_true_eq]; omega]; rfl)
    | (rw [e, Bool.eq_false_iff.2 (show ¬ H = true from fun h => by rw [eh] at h; simp only [Bool.and_eq_true, Bool.or_eq_true, decide_eq_true_eq] at h; omega)]; rfl)
    | (rw [e, Bool.eq_false_iff.2 (show ¬ P = true from by assumption), Bool.and_false, Bool.false_and])
    | (rw [e, show P = false from by assumption, Bool.and_false, Bool.false_and])
    | skip
end Go.Proofs.Ytkbahhackcnnbaa

namespace Go.Proofs.Ytkbahhackcnnbaa
open Go.V Go
set_option maxRecDepth 100000
set_option linter.unusedSimpArgs false

def Tx0 : Tx := ⟨0, 0, 0, 0, [], []⟩
def tC (l : List Tx) (i : Nat) : Bool := (l.getD i Tx0).okB && (decide (i = 0) || decide ((l.getD (i - 1) Tx0).id < (l.getD i Tx0).id))
theorem tC_iff (l : List Tx) (i : Nat) : tC l i = true ↔ (l.getD i Tx0).okB = true ∧ (i = 0 ∨ (l.getD (i - 1) Tx0).id < (l.getD i Tx0).id) := by
  simp only [tC, Bool.and_eq_true, Bool.or_eq_true, decide_eq_true_eq]
/-- A valid table. -/
def tblB (l : List Tx) : Bool := decide (l.length ≤ 64) && (List.range l.length).all (tC l)
def smL (l : List Tx) : Prop := l.length ≤ 1000000 ∧ ∀ t ∈ l, t.sm
theorem fzT_at (l : List Tx) (i : Nat) (h : i < l.length) : (fz encT l)[i]? = some [.lit (.int .i64 l[i].id), .lit (.int .i64 l[i].st), .lit (.int .i64 l[i].n), .lit (.int .i64 l[i].b), .sl (fz encI l[i].l), .sl (fz encI l[i].s)] := fz_get encT l i h
set_option maxHeartbeats 4000000 in
theorem tvalid_v (l : List Tx) (hl : smL l) : VCalls Try.prog 10 [.pv (.sl (fz encT l))] [] (Ret (.bool (tblB l))) := by
  refine vcalls_drop (fn := Try.f10) Try.func10 rfl (by kernel_rfl) (by simp [Try.f10]) ?_
  obtain ⟨hl, hm⟩ := hl
  have hr := fun (i : Nat) (h : i < l.length) => right_v l[i] (hm _ (List.getElem_mem h))
  unfold Tx.d at hr
  simp (config := { maxSteps := 2000000 }) (implicitDefEqProofs := false) (disch := first | omega | assumption | (simp only []; done) | fail) only [go_sem, Nat.reduceBEq, Int.reduceBEq, Try.f10]
  skip
  repeat' (first
    | (refine vrunG_split (fun hZ => ?_) (fun hZ => ?_) <;> (try rw [hZ]) <;> (try simp only [decide_eq_true_eq, decide_eq_false_iff_not, Bool.or_eq_true, Bool.and_eq_true, Bool.or_eq_false_iff, Bool.and_eq_false_imp, Bool.not_eq_true', Bool.not_eq_false', beq_iff_eq, beq_eq_false_iff_ne, bne_iff_ne, bne_eq_false_iff_eq, ne_eq, Bool.not_eq_eq_eq_not, Bool.not_true, Bool.not_false] at hZ) <;> (try (first | rw [(hZ : _ = false)] | rw [(hZ : _ = true)])) <;> skip)
    | (refine vbr_split (fun hZ => ?_) (fun hZ => ?_) <;> (try rw [hZ]) <;> (try simp only [decide_eq_true_eq, decide_eq_false_iff_not, Bool.or_eq_true, Bool.and_eq_true, Bool.or_eq_false_iff, Bool.and_eq_false_imp, Bool.not_eq_true', Bool.not_eq_false', beq_iff_eq, beq_eq_false_iff_ne, bne_iff_ne, bne_eq_false_iff_eq, ne_eq, Bool.not_eq_eq_eq_not, Bool.not_true, Bool.not_false] at hZ) <;> (try (first | rw [(hZ : _ = false)] | rw [(hZ : _ = true)])) <;> (try simp (config := { maxSteps := 2000000 }) (implicitDefEqProofs := false) (disch := first | omega | assumption | (simp only []; done) | fail) only [go_sem, Nat.reduceBEq, Int.reduceBEq]))
    | (refine vdrG_split (fun hZ => ?_) (fun hZ => ?_) <;> (try rw [hZ]) <;> (try simp only [decide_eq_true_eq, decide_eq_false_iff_not, Bool.or_eq_true, Bool.and_eq_true, Bool.or_eq_false_iff, Bool.and_eq_false_imp, Bool.not_eq_true', Bool.not_eq_false', beq_iff_eq, beq_eq_false_iff_ne, bne_iff_ne, bne_eq_false_iff_eq, ne_eq, Bool.not_eq_eq_eq_not, Bool.not_true, Bool.not_false] at hZ) <;> (try (first | rw [(hZ : _ = false)] | rw [(hZ : _ = true)])) <;> skip)
    )
  · rw [tblB, decide_eq_false (by omega)]; rfl
  refine vloopW (fun s : Okay l.length (tC l) => ⟨34, 0, [(10, .int .i64 s.i), (9, .int .i64 l.length), (8, .pv (.sl (fz encT l))), (0, .pv (.sl (fz encT l)))], []⟩) (fun s => l.length - s.i) (Okay.start _ _) (.inl (by refine ⟨rfl, rfl, by simp, ?_, ?_, .inr ⟨?_, ?_⟩⟩ <;> (repeat' apply And.intro) <;> first | rfl | trivial | (intro _; first | rfl | apply cells_refs))) ?_
  intro s
  have hsi := s.hi
  have hg := fun h : s.i < l.length => fzT_at l s.i h
  have hd := fun h : s.i < l.length => getD_eq l s.i h Tx0
  have hgp : 0 < (s.i : Int) → (s.i : Int) < l.length → (fz encT l)[((s.i : Int) - 1).toNat]? = some [.lit (.int .i64 (l.getD (s.i - 1) Tx0).id), .lit (.int .i64 (l.getD (s.i - 1) Tx0).st), .lit (.int .i64 (l.getD (s.i - 1) Tx0).n), .lit (.int .i64 (l.getD (s.i - 1) Tx0).b), .sl (fz encI (l.getD (s.i - 1) Tx0).l), .sl (fz encI (l.getD (s.i - 1) Tx0).s)] := fun h h2 => by
    rw [show ((s.i : Int) - 1).toNat = s.i - 1 by omega, getD_eq l (s.i - 1) (by omega)]; exact fzT_at l (s.i - 1) (by omega)
  (try simp (config := { maxSteps := 2000000 }) (implicitDefEqProofs := false) (disch := first | omega | assumption | (simp only []; done) | fail) only [go_sem, Nat.reduceBEq, Int.reduceBEq])
  repeat' (first
    | (refine vrunG_split (fun hZ => ?_) (fun hZ => ?_) <;> (try rw [hZ]) <;> (try simp only [decide_eq_true_eq, decide_eq_false_iff_not, Bool.or_eq_true, Bool.and_eq_true, Bool.or_eq_false_iff, Bool.and_eq_false_imp, Bool.not_eq_true', Bool.not_eq_false', beq_iff_eq, beq_eq_false_iff_ne, bne_iff_ne, bne_eq_false_iff_eq, ne_eq, Bool.not_eq_eq_eq_not, Bool.not_true, Bool.not_false] at hZ) <;> (try (first | rw [(hZ : _ = false)] | rw [(hZ : _ = true)])) <;> (try simp (config := { maxSteps := 2000000 }) (implicitDefEqProofs := false) (disch := first | omega | assumption | (simp only [List.length_cons, List.length_nil, Nat.zero_add, Nat.reduceAdd]; done) | fail) only [go_sem, ↓reduceIte, reduceCtorEq, Nat.reduceLT, Nat.reduceBEq, Int.reduceLT, Int.reduceBEq, hgp]))
    | (refine vbr_split (fun hZ => ?_) (fun hZ => ?_) <;> (try rw [hZ]) <;> (try simp only [decide_eq_true_eq, decide_eq_false_iff_not, Bool.or_eq_true, Bool.and_eq_true, Bool.or_eq_false_iff, Bool.and_eq_false_imp, Bool.not_eq_true', Bool.not_eq_false', beq_iff_eq, beq_eq_false_iff_ne, bne_iff_ne, bne_eq_false_iff_eq, ne_eq, Bool.not_eq_eq_eq_not, Bool.not_true, Bool.not_false] at hZ) <;> (try (first | rw [(hZ : _ = false)] | rw [(hZ : _ = true)])) <;> (try simp (config := { maxSteps := 2000000 }) (implicitDefEqProofs := false) (disch := first | omega | assumption | (simp only [List.length_cons, List.length_nil, Nat.zero_add, Nat.reduceAdd]; done) | fail) only [go_sem, V.splice, ↓reduceIte, Nat.reduceAdd, Nat.reduceLT, Nat.reduceBEq, Int.reduceLT, Int.reduceAdd, Int.reduceBEq, hg]))
    | (refine vdrG_split (fun hZ => ?_) (fun hZ => ?_) <;> (try rw [hZ]) <;> (try simp only [decide_eq_true_eq, decide_eq_false_iff_not, Bool.or_eq_true, Bool.and_eq_true, Bool.or_eq_false_iff, Bool.and_eq_false_imp, Bool.not_eq_true', Bool.not_eq_false', beq_iff_eq, beq_eq_false_iff_ne, bne_iff_ne, bne_eq_false_iff_eq, ne_eq, Bool.not_eq_eq_eq_not, Bool.not_true, Bool.not_false] at hZ) <;> (try (first | rw [(hZ : _ = false)] | rw [(hZ : _ = true)])) <;> skip)
    | (refine vc_pure (hr s.i (by omega)) rfl ?_; (try simp (config := { maxSteps := 2000000 }) (implicitDefEqProofs := false) (disch := first | omega | assumption | (simp only []; done) | fail) only [go_sem]))
    | (refine vspine (id := 6) [0] [⟨[], [], 1, [], [2, 3, 4, 5, 6, 7, 8, 9, 10, 11, 12, 13, 14, 15, 16, 17]⟩] (by kernel_rfl) (by kernel_rfl) ?_; (try simp (config := { maxSteps := 2000000 }) (implicitDefEqProofs := false) (disch := first | omega | assumption | (simp only []; done) | fail) only [go_sem, ↓reduceIte, Nat.reduceAdd, Nat.reduceBEq, Int.reduceAdd, Int.reduceBEq]))
    )
  all_goals first
    | (rw [tblB, all_not (i := s.i) (by omega) (Bool.eq_false_iff.2 fun h => by rw [tC_iff, hd (by omega)] at h; omega), Bool.and_false])
    | (rw [tblB, all_not (i := s.i) (by omega) (Bool.eq_false_iff.2 fun h => by rw [tC_iff, hd (by omega)] at h; first | exact absurd h.1 (by assumption) | (have h1 := h.1; simp_all)), Bool.and_false])
    | (rw [tblB, s.all (by omega), decide_eq_true (by omega)]; rfl)
    | (exact ⟨s.next (by omega) ((tC_iff _ _).2 ⟨by rw [hd (by omega)]; assumption, by rw [hd (by omega)]; omega⟩), by show l.length - (s.i + 1) < l.length - s.i; omega, (by refine gc_of (keep := []) rfl rfl rfl (by decide) ?_ ?_ <;> (repeat' apply And.intro) <;> first | trivial | rfl | exact ⟨_, rfl, rfl, rfl, .inl ⟨rfl, rfl⟩⟩ | exact ⟨_, rfl, rfl, rfl, .inl ⟨cells_nums _ _ _, rfl⟩⟩ | exact ⟨_, rfl, rfl, rfl, .inl ⟨pvs_nums _ _, rfl⟩⟩ | exact ⟨_, rfl, rfl, rfl, .inr ⟨rfl, rfl⟩⟩)⟩)
    | skip
end Go.Proofs.Ytkbahhackcnnbaa

namespace Go.Proofs.Ytkbahhackcnnbaa
open Go.V Go
set_option maxRecDepth 100000
set_option linter.unusedSimpArgs false

abbrev noK : Nat → Bool := fun _ => false
/-- How far a search has come. -/
structure Pass {α : Type} (l : List α) (p : α → Prop) where
  i : Nat
  hi : i ≤ l.length
  no : ∀ x ∈ l.take i, ¬ p x
def Pass.start {α : Type} (l : List α) (p : α → Prop) : Pass l p := ⟨0, Nat.zero_le _, by simp⟩
def Pass.next {α : Type} {l : List α} {p : α → Prop} (s : Pass l p) (h : s.i < l.length) (hp : ¬ p l[s.i]) : Pass l p :=
  ⟨s.i + 1, h, fun x hx => by
    rw [List.take_succ_eq_append_getElem h, List.mem_append] at hx
    rcases hx with hx | hx
    · exact s.no x hx
    · simp at hx; subst hx; exact hp⟩
theorem Pass.all {α : Type} {l : List α} {p : α → Prop} (s : Pass l p) (h : ¬ s.i < l.length) : ∀ x ∈ l, ¬ p x := by
  have := s.no
  rwa [List.take_of_length_le (by omega)] at this
def idxP {α : Type} (l : List α) (p : α → Bool) : Int := if l.any p = true then (l.findIdx p : Int) else -1
theorem idxP_at {α : Type} (l : List α) (p : α → Bool) (i : Nat) (h : i < l.length) (hx : p l[i] = true) (no : ∀ x ∈ l.take i, ¬ p x = true) : idxP l p = i := by
  rw [idxP, if_pos (List.any_eq_true.2 ⟨l[i], List.getElem_mem h, hx⟩)]
  congr 1
  rw [List.findIdx_eq h]
  refine ⟨hx, fun j hj => ?_⟩
  have := no l[j] (List.mem_take_iff_getElem.2 ⟨j, by omega, rfl⟩)
  simpa using this
theorem fz_at {α : Type} (e : Enc α) (l : List α) (i : Nat) (h : i < l.length) : (fz e l)[i]? = some (e.enc l[i]) := fz_get e l i h

theorem indexFT_v (l : List Tx) (hl : l.length ≤ 1000000) (g : FuncId) (caps : List DV) (hc : DV.nums.go (fun _ => false) caps = true) (p : Tx → Bool) (hf : ∀ x ∈ l, VCalls Try.prog g (.agg x.d :: caps) [] (Ret (.bool (p x)))) :
    VCalls Try.prog 51 [.pv (.sl (fz encT l)), .fn (.func g) [] caps] [] (Ret (.int .i64 (idxP l p))) := by
  refine vcalls_drop (fn := Try.f51) Try.func51 rfl (by kernel_rfl) (by simp [Try.f51]) ?_
  unfold Tx.d at hf
  simp (config := { maxSteps := 2000000 }) (implicitDefEqProofs := false) (disch := first | omega | assumption | (simp only []; done) | fail) only [go_sem, Nat.reduceAdd, Nat.reduceBEq, Int.reduceNeg, Int.reduceAdd, Int.reduceBEq, Try.f51]
  refine vloop (fun i : Pass l (fun x => p x = true) => ⟨19, 0, [(8, .int .i64 i.i), (7, .int .i64 l.length), (0, .pv (.sl (fz encT l))), (1, .fn (.func g) [] caps)], []⟩) (fun i => l.length - i.i) (Pass.start l _) (by refine ⟨rfl, rfl, by simp, ?_, ?_, .inl rfl⟩ <;> (repeat' apply And.intro) <;> first | rfl | trivial) ?_
  intro i
  have hi := i.hi
  simp (config := { maxSteps := 2000000 }) (implicitDefEqProofs := false) (disch := first | omega | assumption | (simp only []; done) | fail) only [go_sem, Nat.reduceBEq, Int.reduceNeg, Int.reduceBEq]
  refine vbr_split (fun hc1 => ?_) (fun hc1 => ?_) <;> simp only [decide_eq_true_eq, decide_eq_false_iff_not, Bool.or_eq_true, Bool.and_eq_true, Bool.or_eq_false_iff, Bool.and_eq_false_imp, Bool.not_eq_true', Bool.not_eq_false', beq_iff_eq, beq_eq_false_iff_ne, bne_iff_ne, bne_eq_false_iff_eq, ne_eq] at hc1
  · have hlt : i.i < l.length := by omega
    have hg := fzT_at l i.i hlt
    have hm := hf l[i.i] (List.getElem_mem hlt)
    simp (config := { maxSteps := 2000000 }) (implicitDefEqProofs := false) (disch := first | omega | assumption | (simp only [List.length_cons, List.length_nil, Nat.zero_add, Nat.reduceAdd]; done) | fail) only [go_sem, ↓reduceIte, Nat.reduceAdd, Nat.reduceBEq, Int.reduceNeg, Int.reduceAdd, Int.reduceBEq, hg]
    refine vc_pure hm (by simpa [DV.nums.go, DV.nums] using hc) ?_
    simp (config := { maxSteps := 2000000 }) (implicitDefEqProofs := false) (disch := first | omega | assumption) only [go_sem, Int.reduceNeg]
    refine vbr_split (fun hx => ?_) (fun hx => ?_)
    · simp (config := { maxSteps := 2000000 }) (implicitDefEqProofs := false) (disch := first | omega | assumption | (simp only []; done) | fail) only [go_sem, Nat.reduceBEq, Int.reduceNeg, Int.reduceBEq]
      rw [idxP_at l p i.i hlt hx i.no]
    · simp (config := { maxSteps := 2000000 }) (implicitDefEqProofs := false) (disch := first | omega | assumption | (simp only []; done) | fail) only [go_sem, Nat.reduceLT, Nat.reduceBEq, Int.reduceLT, Int.reduceNeg, Int.reduceBEq]
      exact ⟨i.next hlt (by rw [hx]; simp), by show l.length - (i.i + 1) < l.length - i.i; omega, (by refine ⟨rfl, rfl, by simp, ?_, ?_, .inl rfl⟩ <;> (repeat' apply And.intro) <;> first | rfl | trivial)⟩
  · simp (config := { maxSteps := 2000000 }) (implicitDefEqProofs := false) (disch := first | omega | assumption | (simp only []; done) | fail) only [go_sem, ↓reduceIte, Int.reduceNeg]
    have := i.all (by omega)
    rw [idxP, if_neg (by simpa using this)]
theorem find1_v (t : Tx) (a : Int) : VCalls Try.prog 52 [.agg t.d, .ip [.lit (.int .i64 a)]] [] (Ret (.bool (t.id == a))) := by
  refine vcalls_drop (fn := Try.f52) Try.func52 rfl (by kernel_rfl) (by simp [Try.f52]) ?_
  simp (config := { maxSteps := 2000000 }) (implicitDefEqProofs := false) (disch := first | omega | assumption | (simp only []; done) | fail) only [go_sem, ↓reduceIte, reduceCtorEq, Nat.reduceAdd, Nat.reduceLT, Nat.reduceBEq, Int.reduceLT, Int.reduceAdd, Int.reduceBEq, Try.f52, Tx.d]
theorem find_v (l : List Tx) (hl : l.length ≤ 1000000) (a : Int) : VCalls Try.prog 19 [.pv (.sl (fz encT l)), .int .i64 a] [] (Ret (.int .i64 (idxP l fun t => t.id == a))) := by
  refine vcalls_drop (fn := Try.f19) Try.func19 rfl (by kernel_rfl) (by simp [Try.f19]) ?_
  have hi := indexFT_v l hl 52 [.ip [.lit (.int .i64 a)]] rfl (fun t => t.id == a) (fun t _ => find1_v t a)
  simp (config := { maxSteps := 2000000 }) (implicitDefEqProofs := false) (disch := first | omega | assumption | (simp only []; done) | fail) only [go_sem, ↓reduceIte, Nat.reduceAdd, Nat.reduceLT, Nat.reduceBEq, Int.reduceLT, Int.reduceAdd, Int.reduceBEq, Try.f19]
  skip
  repeat' (first
    | (refine vrunG_split (fun hZ => ?_) (fun hZ => ?_) <;> (try rw [hZ]) <;> (try simp only [decide_eq_true_eq, decide_eq_false_iff_not, Bool.or_eq_true, Bool.and_eq_true, Bool.or_eq_false_iff, Bool.and_eq_false_imp, Bool.not_eq_true', Bool.not_eq_false', beq_iff_eq, beq_eq_false_iff_ne, bne_iff_ne, bne_eq_false_iff_eq, ne_eq, Bool.not_eq_eq_eq_not, Bool.not_true, Bool.not_false] at hZ) <;> (try (first | rw [(hZ : _ = false)] | rw [(hZ : _ = true)])) <;> skip)
    | (refine vbr_split (fun hZ => ?_) (fun hZ => ?_) <;> (try rw [hZ]) <;> (try simp only [decide_eq_true_eq, decide_eq_false_iff_not, Bool.or_eq_true, Bool.and_eq_true, Bool.or_eq_false_iff, Bool.and_eq_false_imp, Bool.not_eq_true', Bool.not_eq_false', beq_iff_eq, beq_eq_false_iff_ne, bne_iff_ne, bne_eq_false_iff_eq, ne_eq, Bool.not_eq_eq_eq_not, Bool.not_true, Bool.not_false] at hZ) <;> (try (first | rw [(hZ : _ = false)] | rw [(hZ : _ = true)])) <;> skip)
    | (refine vdrG_split (fun hZ => ?_) (fun hZ => ?_) <;> (try rw [hZ]) <;> (try simp only [decide_eq_true_eq, decide_eq_false_iff_not, Bool.or_eq_true, Bool.and_eq_true, Bool.or_eq_false_iff, Bool.and_eq_false_imp, Bool.not_eq_true', Bool.not_eq_false', beq_iff_eq, beq_eq_false_iff_ne, bne_iff_ne, bne_eq_false_iff_eq, ne_eq, Bool.not_eq_eq_eq_not, Bool.not_true, Bool.not_false] at hZ) <;> (try (first | rw [(hZ : _ = false)] | rw [(hZ : _ = true)])) <;> skip)
    | (refine vc_lendA (hi) ?_ rfl ?_; (focus (simp (config := { maxSteps := 2000000 }) (implicitDefEqProofs := false) (disch := first | omega | assumption) only [go_sem]; done)); (try simp (config := { maxSteps := 2000000 }) (implicitDefEqProofs := false) (disch := first | omega | assumption | (simp only []; done) | fail) only [go_sem]))
    )
end Go.Proofs.Ytkbahhackcnnbaa

namespace Go.Proofs.Ytkbahhackcnnbaa
open Go.V Go
set_option maxRecDepth 100000
set_option linter.unusedSimpArgs false

theorem cloneT_v (l : List Tx) (hl : l.length ≤ 1000000) : VCalls Try.prog 49 [.pv (.sl (fz encT l))] [] (NewSl noK [] 6 l.length 52 (cells encT l)) := by
  refine VCalls.newSl ?_
  by_cases hz : l = []
  · subst hz
    refine VCalls.open0 fun ad cap hs => ?_
    refine vcalls_keep (fn := Try.f49) Try.func49 rfl (by kernel_rfl) (by simp [Try.f49]) ?_
    simp (config := { maxSteps := 2000000 }) (implicitDefEqProofs := false) (disch := first | omega | assumption | (simp only []; done) | fail) only [go_sem, Nat.reduceBEq, Int.reduceBEq, Try.f49, Try.underlying23]
    refine vbr_split (fun h => ?_) (fun h => ?_)
    · simp (config := { maxSteps := 2000000 }) (implicitDefEqProofs := false) (disch := first | omega | assumption | (simp only []; done) | fail) only [go_sem]
      exact ⟨by simp, .inl ⟨rfl, rfl, rfl⟩⟩
    · simp (config := { maxSteps := 2000000 }) (implicitDefEqProofs := false) (disch := first | omega | assumption | (simp only []; done) | fail) only [go_sem, V.mk, ↓reduceIte, Nat.reduceAdd, Nat.reduceLT, Nat.reduceLeDiff, Nat.reduceBEq, Int.reduceLT, Int.reduceAdd, Int.reduceBEq]
      exact ⟨by simp, .inr ⟨_, .inl rfl, by simp, rfl, rfl⟩⟩
  · have hp : 0 < l.length := List.length_pos_iff.2 hz
    refine vcalls_keep (fn := Try.f49) Try.func49 rfl (by kernel_rfl) (by simp [Try.f49]) ?_
    have h0 := isNil_fz encT l hp
    have hx : (fz encT l)[0]?.map List.length = some 6 := fz_has encT l hp
    have hb : l.length * 80 ≤ 140737488355328 := by omega
    have hfl : pvs (fz encT l) = cells encT l := fz_flat encT l
    simp (config := { maxSteps := 2000000 }) (implicitDefEqProofs := false) (disch := first | omega | assumption | (simp only []; done) | fail) only [go_sem, V.mk, ↓reduceIte, Nat.reduceAdd, Nat.reduceLT, Nat.reduceLeDiff, Nat.reduceBEq, Int.reduceLT, Int.reduceAdd, Int.reduceBEq, Try.f49, Try.underlying23, h0, hx, hb]
    exact ⟨by simp, .inr ⟨_, .inl rfl, by simp, rfl, cells_nums _ _ _⟩⟩

end Go.Proofs.Ytkbahhackcnnbaa

namespace Go.Proofs.Ytkbahhackcnnbaa
open Go.V Go
set_option maxRecDepth 100000
set_option linter.unusedSimpArgs false

/-- Where a search by halves ends: how many stand before. -/
def lo {α : Type} (l : List α) (f : α → Bool) : Nat := (l.takeWhile f).length
/-- Those before come first. -/
def Fore {α : Type} (l : List α) (f : α → Bool) : Prop := ∀ i j : Nat, ∀ hi : i < l.length, ∀ hj : j < l.length, i < j → f l[j] = true → f l[i] = true
theorem lo_le {α : Type} (l : List α) (f : α → Bool) : lo l f ≤ l.length := (List.takeWhile_sublist _).length_le
theorem lo_eq {α : Type} (l : List α) (f : α → Bool) (i : Nat) (hi : i ≤ l.length) (h1 : ∀ k, ∀ hk : k < l.length, k < i → f l[k] = true) (h2 : ∀ hi : i < l.length, f l[i] = false) : lo l f = i := by
  unfold lo
  induction l generalizing i with
  | nil => simp at hi; subst hi; rfl
  | cons a r ih =>
    cases i with
    | zero =>
      have := h2 (by simp)
      simp only [List.getElem_cons_zero] at this
      rw [List.takeWhile_cons, this]; rfl
    | succ i =>
      have h0 := h1 0 (by simp) (by omega)
      simp only [List.getElem_cons_zero] at h0
      rw [List.takeWhile_cons, h0]
      simp only [if_true, List.length_cons]
      rw [ih i (by simpa using hi) (fun k hk hki => h1 (k + 1) (by simpa using hk) (by omega)) (fun hi => h2 (by simpa using hi))]
/-- How far a search by halves has come. -/
structure BS {α : Type} (l : List α) (f : α → Bool) where
  i : Nat
  j : Nat
  hij : i ≤ j
  hj : j ≤ l.length
  h1 : ∀ k, ∀ hk : k < l.length, k < i → f l[k] = true
  h2 : ∀ hj : j < l.length, f l[j] = false
def BS.start {α : Type} (l : List α) (f : α → Bool) : BS l f := ⟨0, l.length, Nat.zero_le _, Nat.le_refl _, fun k hk h => by omega, fun h => by omega⟩
def BS.up {α : Type} {l : List α} {f : α → Bool} (s : BS l f) (hf : Fore l f) (h : Nat) (h1 : s.i ≤ h) (h2 : h < s.j) (hx : f (l[h]'(Nat.lt_of_lt_of_le h2 s.hj)) = true) : BS l f :=
  ⟨h + 1, s.j, h2, s.hj, fun k hk hki => by
    rcases Nat.lt_or_ge k h with hlt | hge
    · exact hf k h hk (Nat.lt_of_lt_of_le h2 s.hj) hlt hx
    · obtain rfl : k = h := by omega
      exact hx, s.h2⟩
def BS.down {α : Type} {l : List α} {f : α → Bool} (s : BS l f) (h : Nat) (h1 : s.i ≤ h) (h2 : h < s.j) (hx : f (l[h]'(Nat.lt_of_lt_of_le h2 s.hj)) = false) : BS l f :=
  ⟨s.i, h, h1, Nat.le_of_lt (Nat.lt_of_lt_of_le h2 s.hj), s.h1, fun _ => hx⟩
theorem BS.fin {α : Type} {l : List α} {f : α → Bool} (s : BS l f) (h : ¬ s.i < s.j) : lo l f = s.i := by
  have e : s.i = s.j := by have := s.hij; omega
  exact lo_eq l f s.i (by have := s.hj; omega) s.h1 (fun hi => by
    have := s.h2 (e ▸ hi)
    simpa only [e] using this)
theorem half (i j : Nat) (h : j ≤ 1000000) (hij : i ≤ j) : IntKind.i64.wrap ((IntKind.u64.wrap ((i : Int) + j)).fdiv (2 ^ min 1 64)) = ((i + j) / 2 : Nat) := by
  have e0 : ((2 : Int) ^ min 1 64) = 2 := by decide
  rw [e0]
  have e1 : IntKind.u64.wrap ((i : Int) + j) = (i : Int) + j := by
    simp [IntKind.wrap, IntKind.signed, IntKind.bits]; omega
  rw [e1, Int.fdiv_eq_ediv_of_nonneg _ (by omega), IntKind.wrap_i64]
  omega

set_option maxHeartbeats 1000000 in
theorem search_v {α : Type} (l : List α) (hl : l.length ≤ 1000000) (f : α → Bool) (g : FuncId) (caps : List DV) (hc : DV.nums.go (fun _ => false) caps = true) (hf : ∀ i, ∀ h : i < l.length, VCalls Try.prog g (.int .i64 i :: caps) [] (Ret (.bool (!f l[i])))) (hF : Fore l f) :
    VCalls Try.prog 74 [.int .i64 l.length, .fn (.func g) [] caps] [] (Ret (.int .i64 (lo l f))) := by
  refine vcalls_drop (fn := Try.f74) Try.func74 rfl (by kernel_rfl) (by simp [Try.f74]) ?_
  simp (config := { maxSteps := 2000000 }) (implicitDefEqProofs := false) (disch := first | omega | assumption | (simp only []; done) | fail) only [go_sem, Nat.reduceAdd, Nat.reduceBEq, Int.reduceAdd, Int.reduceBEq, Try.f74]
  refine vloop (fun s : BS l f => ⟨26, 0, [(6, .int .i64 s.j), (5, .int .i64 s.i), (1, .fn (.func g) [] caps)], []⟩) (fun s => s.j - s.i) (BS.start l _) (by refine ⟨rfl, rfl, by simp, ?_, ?_, .inl rfl⟩ <;> (repeat' apply And.intro) <;> first | rfl | trivial) ?_
  intro s
  have hij := s.hij
  have hj := s.hj
  have hh := half s.i s.j (by omega) hij
  simp (config := { maxSteps := 2000000 }) (implicitDefEqProofs := false) (disch := first | omega | assumption | (simp only []; done) | fail) only [go_sem, Nat.reduceBEq, Int.reduceBEq]
  refine vbr_split (fun hc1 => ?_) (fun hc1 => ?_) <;> simp only [decide_eq_true_eq, decide_eq_false_iff_not, Bool.or_eq_true, Bool.and_eq_true, Bool.or_eq_false_iff, Bool.and_eq_false_imp, Bool.not_eq_true', Bool.not_eq_false', beq_iff_eq, beq_eq_false_iff_ne, bne_iff_ne, bne_eq_false_iff_eq, ne_eq] at hc1
  · have hlt : (s.i + s.j) / 2 < l.length := by omega
    have hm := hf _ hlt
    simp (config := { maxSteps := 2000000 }) (implicitDefEqProofs := false) (disch := first | omega | assumption | (simp only []; done) | fail) only [go_sem, Nat.reduceBEq, Int.reduceToNat, Int.reduceBEq, hh]
    refine vc_pure hm (by simpa [DV.nums.go, DV.nums] using hc) ?_
    cases hx : f l[(s.i + s.j) / 2]
    · simp (config := { maxSteps := 2000000 }) (implicitDefEqProofs := false) (disch := first | omega | assumption | (simp only []; done) | fail) only [go_sem, Nat.reduceBEq, Int.reduceBEq]
      exact ⟨s.down ((s.i + s.j) / 2) (by omega) (by omega) hx, by show (s.i + s.j) / 2 - s.i < s.j - s.i; omega, (by refine ⟨rfl, rfl, by simp, ?_, ?_, .inl rfl⟩ <;> (repeat' apply And.intro) <;> first | rfl | trivial)⟩
    · simp (config := { maxSteps := 2000000 }) (implicitDefEqProofs := false) (disch := first | omega | assumption | (simp only []; done) | fail) only [go_sem, Nat.reduceBEq, Int.reduceBEq]
      exact ⟨s.up hF _ (by omega) (by omega) hx, by show s.j - ((s.i + s.j) / 2 + 1) < s.j - s.i; omega, (by refine ⟨rfl, rfl, by simp, ?_, ?_, .inl rfl⟩ <;> (repeat' apply And.intro) <;> first | rfl | trivial)⟩
  · have hlo := s.fin (by omega)
    rw [hlo]
    simp (config := { maxSteps := 2000000 }) (implicitDefEqProofs := false) (disch := first | omega | assumption | (simp only []; done) | fail) only [go_sem, ↓reduceIte, Nat.reduceLT, Nat.reduceBEq, Int.reduceLT, Int.reduceBEq]
theorem place1_v (l : List Tx) (a : Int) (i : Nat) (h : i < l.length) : VCalls Try.prog 75 [.int .i64 i, .ip [.sl (fz encT l)], .ip [.lit (.int .i64 a)]] [] (Ret (.bool (!decide (l[i].id < a)))) := by
  refine vcalls_drop (fn := Try.f75) Try.func75 rfl (by kernel_rfl) (by simp [Try.f75]) ?_
  have hg := fzT_at l i h
  simp (config := { maxSteps := 2000000 }) (implicitDefEqProofs := false) (disch := first | omega | assumption | (simp only []; done) | fail) only [go_sem, Nat.reduceAdd, Int.reduceAdd, Try.f75]
  skip
  repeat' (first
    | (refine vrunG_split (fun hZ => ?_) (fun hZ => ?_) <;> (try rw [hZ]) <;> (try simp only [decide_eq_true_eq, decide_eq_false_iff_not, Bool.or_eq_true, Bool.and_eq_true, Bool.or_eq_false_iff, Bool.and_eq_false_imp, Bool.not_eq_true', Bool.not_eq_false', beq_iff_eq, beq_eq_false_iff_ne, bne_iff_ne, bne_eq_false_iff_eq, ne_eq, Bool.not_eq_eq_eq_not, Bool.not_true, Bool.not_false] at hZ) <;> (try (first | rw [(hZ : _ = false)] | rw [(hZ : _ = true)])) <;> skip)
    | (refine vbr_split (fun hZ => ?_) (fun hZ => ?_) <;> (try rw [hZ]) <;> (try simp only [decide_eq_true_eq, decide_eq_false_iff_not, Bool.or_eq_true, Bool.and_eq_true, Bool.or_eq_false_iff, Bool.and_eq_false_imp, Bool.not_eq_true', Bool.not_eq_false', beq_iff_eq, beq_eq_false_iff_ne, bne_iff_ne, bne_eq_false_iff_eq, ne_eq, Bool.not_eq_eq_eq_not, Bool.not_true, Bool.not_false] at hZ) <;> (try (first | rw [(hZ : _ = false)] | rw [(hZ : _ = true)])) <;> skip)
    | (refine vdrG_split (fun hZ => ?_) (fun hZ => ?_) <;> (try rw [hZ]) <;> (try simp only [decide_eq_true_eq, decide_eq_false_iff_not, Bool.or_eq_true, Bool.and_eq_true, Bool.or_eq_false_iff, Bool.and_eq_false_imp, Bool.not_eq_true', Bool.not_eq_false', beq_iff_eq, beq_eq_false_iff_ne, bne_iff_ne, bne_eq_false_iff_eq, ne_eq, Bool.not_eq_eq_eq_not, Bool.not_true, Bool.not_false] at hZ) <;> (try (first | rw [(hZ : _ = false)] | rw [(hZ : _ = true)])) <;> skip)
    | (refine vspine (id := 1) [0, 1, 2, 3, 4, 5, 6] [⟨[], [], 7, [], []⟩] (by kernel_rfl) (by kernel_rfl) ?_; (try simp (config := { maxSteps := 2000000 }) (implicitDefEqProofs := false) (disch := first | omega | assumption | (simp only [List.length_cons, List.length_nil, Nat.zero_add, Nat.reduceAdd]; done) | fail) only [go_sem, ↓reduceIte, reduceCtorEq, Nat.reduceLT, Nat.reduceBEq, Int.reduceLT, Int.reduceBEq, hg]))
    )
  rw [show (!decide (l[i].id < a)) = decide (a ≤ l[i].id) by rw [Bool.eq_iff_iff]; simp]
theorem idl_fore (l : List Tx) (h : (l.map (·.id)).Pairwise (· < ·)) (a : Int) : Fore l (fun t => decide (t.id < a)) := fun i j hi hj hij hx => by
  have := List.pairwise_iff_getElem.mp h i j (by rwa [List.length_map]) (by rwa [List.length_map]) hij
  rw [List.getElem_map, List.getElem_map] at this
  rw [decide_eq_true_eq] at hx ⊢
  omega
theorem place_v (l : List Tx) (hl : l.length ≤ 1000000) (h : (l.map (·.id)).Pairwise (· < ·)) (a : Int) : VCalls Try.prog 50 [.pv (.sl (fz encT l)), .int .i64 a] [] (Ret (.int .i64 (lo l fun t => decide (t.id < a)))) := by
  refine vcalls_drop (fn := Try.f50) Try.func50 rfl (by kernel_rfl) (by simp [Try.f50]) ?_
  have hi := search_v l hl (fun t => decide (t.id < a)) 75 [.ip [.sl (fz encT l)], .ip [.lit (.int .i64 a)]] rfl (fun i h => place1_v l a i h) (idl_fore l h a)
  simp (config := { maxSteps := 2000000 }) (implicitDefEqProofs := false) (disch := first | omega | assumption | (simp only []; done) | fail) only [go_sem, ↓reduceIte, Nat.reduceAdd, Nat.reduceLT, Nat.reduceBEq, Int.reduceLT, Int.reduceAdd, Int.reduceBEq, Try.f50]
  skip
  repeat' (first
    | (refine vrunG_split (fun hZ => ?_) (fun hZ => ?_) <;> (try rw [hZ]) <;> (try simp only [decide_eq_true_eq, decide_eq_false_iff_not, Bool.or_eq_true, Bool.and_eq_true, Bool.or_eq_false_iff, Bool.and_eq_false_imp, Bool.not_eq_true', Bool.not_eq_false', beq_iff_eq, beq_eq_false_iff_ne, bne_iff_ne, bne_eq_false_iff_eq, ne_eq, Bool.not_eq_eq_eq_not, Bool.not_true, Bool.not_false] at hZ) <;> (try (first | rw [(hZ : _ = false)] | rw [(hZ : _ = true)])) <;> skip)
    | (refine vbr_split (fun hZ => ?_) (fun hZ => ?_) <;> (try rw [hZ]) <;> (try simp only [decide_eq_true_eq, decide_eq_false_iff_not, Bool.or_eq_true, Bool.and_eq_true, Bool.or_eq_false_iff, Bool.and_eq_false_imp, Bool.not_eq_true', Bool.not_eq_false', beq_iff_eq, beq_eq_false_iff_ne, bne_iff_ne, bne_eq_false_iff_eq, ne_eq, Bool.not_eq_eq_eq_not, Bool.not_true, Bool.not_false] at hZ) <;> (try (first | rw [(hZ : _ = false)] | rw [(hZ : _ = true)])) <;> skip)
    | (refine vdrG_split (fun hZ => ?_) (fun hZ => ?_) <;> (try rw [hZ]) <;> (try simp only [decide_eq_true_eq, decide_eq_false_iff_not, Bool.or_eq_true, Bool.and_eq_true, Bool.or_eq_false_iff, Bool.and_eq_false_imp, Bool.not_eq_true', Bool.not_eq_false', beq_iff_eq, beq_eq_false_iff_ne, bne_iff_ne, bne_eq_false_iff_eq, ne_eq, Bool.not_eq_eq_eq_not, Bool.not_true, Bool.not_false] at hZ) <;> (try (first | rw [(hZ : _ = false)] | rw [(hZ : _ = true)])) <;> skip)
    | (refine vc_lendA (hi) ?_ rfl ?_; (focus (simp (config := { maxSteps := 2000000 }) (implicitDefEqProofs := false) (disch := first | omega | assumption) only [go_sem]; done)); (try simp (config := { maxSteps := 2000000 }) (implicitDefEqProofs := false) (disch := first | omega | assumption | (simp only []; done) | fail) only [go_sem]))
    )
end Go.Proofs.Ytkbahhackcnnbaa

namespace Go.Proofs.Ytkbahhackcnnbaa
open Go.V Go
set_option maxRecDepth 100000
set_option linter.unusedSimpArgs false

set_option maxHeartbeats 4000000 in
theorem rright_v (t : Tx) (hs : t.sm) : VCalls Try.prog 35 [.agg t.d] [] (Ret (.bool t.okB)) := by
  refine vcalls_drop (fn := Try.f35) Try.func35 rfl (by kernel_rfl) (by simp [Try.f35]) ?_
  obtain ⟨id, st, n, b, l, s⟩ := t
  obtain ⟨hs1, hs2⟩ := hs
  dsimp only at hs1 hs2
  have e : (⟨id, st, n, b, l, s⟩ : Tx).okB = ((⟨id, st, n, b, l, s⟩ : Tx).hdB && ascB l 1 n 1 && ascB s 0 n 0) := rfl
  have eh : (⟨id, st, n, b, l, s⟩ : Tx).hdB = (decide (1 ≤ id) && decide (id ≤ 1073741824) && decide (1 ≤ st) && decide (st ≤ 3) && decide (0 ≤ n) && decide (n ≤ 1099511627776) && (decide (b = 0) || (decide (st = 2) && decide (0 < b) && decide (b ≤ n))) && decide (l.length ≤ 4096) && decide (s.length ≤ 8)) := rfl
  generalize (⟨id, st, n, b, l, s⟩ : Tx).hdB = H at *
  generalize (⟨id, st, n, b, l, s⟩ : Tx).okB = K at *
  dsimp only [Tx.d]
  simp (config := { maxSteps := 2000000 }) (implicitDefEqProofs := false) (disch := first | omega | assumption | (simp only []; done) | fail) only [go_sem, ↓reduceIte, reduceCtorEq, Nat.reduceBEq, Int.reduceBEq, Try.f35]
  skip
  repeat' (first
    | (refine vrunG_split (fun hZ => ?_) (fun hZ => ?_) <;> (try rw [hZ]) <;> (try simp only [decide_eq_true_eq, decide_eq_false_iff_not, Bool.or_eq_true, Bool.and_eq_true, Bool.or_eq_false_iff, Bool.and_eq_false_imp, Bool.not_eq_true', Bool.not_eq_false', beq_iff_eq, beq_eq_false_iff_ne, bne_iff_ne, bne_eq_false_iff_eq, ne_eq, Bool.not_eq_eq_eq_not, Bool.not_true, Bool.not_false] at hZ) <;> (try (first | rw [(hZ : _ = false)] | rw [(hZ : _ = true)])) <;> (try simp (config := { maxSteps := 2000000 }) (implicitDefEqProofs := false) (disch := first | omega | assumption | (simp only []; done) | fail) only [go_sem, ↓reduceIte, reduceCtorEq, Nat.reduceBEq, Int.reduceBEq]))
    | (refine vbr_split (fun hZ => ?_) (fun hZ => ?_) <;> (try rw [hZ]) <;> (try simp only [decide_eq_true_eq, decide_eq_false_iff_not, Bool.or_eq_true, Bool.and_eq_true, Bool.or_eq_false_iff, Bool.and_eq_false_imp, Bool.not_eq_true', Bool.not_eq_false', beq_iff_eq, beq_eq_false_iff_ne, bne_iff_ne, bne_eq_false_iff_eq, ne_eq, Bool.not_eq_eq_eq_not, Bool.not_true, Bool.not_false] at hZ) <;> (try (first | rw [(hZ : _ = false)] | rw [(hZ : _ = true)])) <;> (try simp (config := { maxSteps := 2000000 }) (implicitDefEqProofs := false) (disch := first | omega | assumption | (simp only []; done) | fail) only [go_sem, ↓reduceIte, reduceCtorEq, Nat.reduceBEq, Int.reduceBEq]))
    | (refine vdrG_split (fun hZ => ?_) (fun hZ => ?_) <;> (try rw [hZ]) <;> (try simp only [decide_eq_true_eq, decide_eq_false_iff_not, Bool.or_eq_true, Bool.and_eq_true, Bool.or_eq_false_iff, Bool.and_eq_false_imp, Bool.not_eq_true', Bool.not_eq_false', beq_iff_eq, beq_eq_false_iff_ne, bne_iff_ne, bne_eq_false_iff_eq, ne_eq, Bool.not_eq_eq_eq_not, Bool.not_true, Bool.not_false] at hZ) <;> (try (first | rw [(hZ : _ = false)] | rw [(hZ : _ = true)])) <;> skip)
    )
  all_goals first
    | (rw [e, Bool.eq_false_iff.2 (show ¬ H = true from fun h => by rw [eh] at h; simp only [Bool.and_eq_true, Bool.or_eq_true, decide_eq_true_eq] at h; omega)]; rfl)
    | skip
  all_goals
    have hh : H = true := by rw [eh]; simp only [Bool.and_eq_true, Bool.or_eq_true, decide_eq_true_eq]; omega
    refine vloopW (fun q : Okay l.length (ascC l 1 n 1) => ⟨147, 0, [(3, .int .i64 q.i), (1, .ptr 0 0)], [⟨52, true, [.int .i64 id, .int .i64 st, .int .i64 n, .int .i64 b, .pv (.sl (fz encI l)), .pv (.sl (fz encI s))]⟩]⟩) (fun q => l.length - q.i) (Okay.start _ _) (by exact (by refine gc_of (keep := [0]) rfl rfl rfl (by decide) ?_ ?_ <;> (repeat' apply And.intro) <;> first | trivial | rfl | exact ⟨_, rfl, rfl, rfl, .inl ⟨rfl, rfl⟩⟩ | exact ⟨_, rfl, rfl, rfl, .inl ⟨cells_nums _ _ _, rfl⟩⟩ | exact ⟨_, rfl, rfl, rfl, .inl ⟨pvs_nums _ _, rfl⟩⟩ | exact ⟨_, rfl, rfl, rfl, .inr ⟨rfl, rfl⟩⟩)) ?_
    intro q
    have hqi := q.hi
    have hg := fun h : q.i < l.length => fzI_get l q.i h
    have hgp : 0 < (q.i : Int) → (q.i : Int) < l.length → (fz encI l)[((q.i : Int) - 1).toNat]? = some [.lit (.int .i64 (l.getD (q.i - 1) 0))] := fun h h2 => by
      rw [show ((q.i : Int) - 1).toNat = q.i - 1 by omega]; exact fzI_get l (q.i - 1) (by omega)
    (try simp (config := { maxSteps := 2000000 }) (implicitDefEqProofs := false) (disch := first | omega | assumption | (simp only []; done) | fail) only [go_sem, ↓reduceIte, reduceCtorEq, Nat.reduceBEq, Int.reduceBEq])
    repeat' (first
      | (refine vrunG_split (fun hZ => ?_) (fun hZ => ?_) <;> (try rw [hZ]) <;> (try simp only [decide_eq_true_eq, decide_eq_false_iff_not, Bool.or_eq_true, Bool.and_eq_true, Bool.or_eq_false_iff, Bool.and_eq_false_imp, Bool.not_eq_true', Bool.not_eq_false', beq_iff_eq, beq_eq_false_iff_ne, bne_iff_ne, bne_eq_false_iff_eq, ne_eq, Bool.not_eq_eq_eq_not, Bool.not_true, Bool.not_false] at hZ) <;> (try (first | rw [(hZ : _ = false)] | rw [(hZ : _ = true)])) <;> (try simp (config := { maxSteps := 2000000 }) (implicitDefEqProofs := false) (disch := first | omega | assumption | (simp only [List.length_cons, List.length_nil, Nat.zero_add]; done) | fail) only [go_sem, ↓reduceIte, reduceCtorEq, Nat.reduceBEq, Int.reduceBEq, hg, hgp]))
      | (refine vbr_split (fun hZ => ?_) (fun hZ => ?_) <;> (try rw [hZ]) <;> (try simp only [decide_eq_true_eq, decide_eq_false_iff_not, Bool.or_eq_true, Bool.and_eq_true, Bool.or_eq_false_iff, Bool.and_eq_false_imp, Bool.not_eq_true', Bool.not_eq_false', beq_iff_eq, beq_eq_false_iff_ne, bne_iff_ne, bne_eq_false_iff_eq, ne_eq, Bool.not_eq_eq_eq_not, Bool.not_true, Bool.not_false] at hZ) <;> (try (first | rw [(hZ : _ = false)] | rw [(hZ : _ = true)])) <;> (try simp (config := { maxSteps := 2000000 }) (implicitDefEqProofs := false) (disch := first | omega | assumption | (simp only []; done) | fail) only [go_sem, ↓reduceIte, Nat.reduceBEq, Int.reduceBEq]))
      | (refine vdrG_split (fun hZ => ?_) (fun hZ => ?_) <;> (try rw [hZ]) <;> (try simp only [decide_eq_true_eq, decide_eq_false_iff_not, Bool.or_eq_true, Bool.and_eq_true, Bool.or_eq_false_iff, Bool.and_eq_false_imp, Bool.not_eq_true', Bool.not_eq_false', beq_iff_eq, beq_eq_false_iff_ne, bne_iff_ne, bne_eq_false_iff_eq, ne_eq, Bool.not_eq_eq_eq_not, Bool.not_true, Bool.not_false] at hZ) <;> (try (first | rw [(hZ : _ = false)] | rw [(hZ : _ = true)])) <;> skip)
      | (refine vspine (id := 8) [0, 1, 2, 3, 4, 5, 6, 7, 8, 9, 10, 11, 12, 13, 14, 15, 16, 17, 18, 19, 20, 21, 22, 23, 24, 25, 26, 27, 28, 29, 30, 31, 32, 33] [] (by kernel_rfl) (by kernel_rfl) ?_; (try simp (config := { maxSteps := 2000000 }) (implicitDefEqProofs := false) (disch := first | omega | assumption | (simp only [List.length_cons, List.length_nil, Nat.zero_add]; done) | fail) only [go_sem, ↓reduceIte, reduceCtorEq, Nat.reduceBEq, Int.reduceBEq, hg]))
      )
    all_goals first
      | (rw [e, ascB, ascB, all_not (n := l.length) (c := ascC l 1 n 1) (i := q.i) (by omega) (Bool.eq_false_iff.2 fun h => by rw [ascC_iff] at h; omega)]; simp)
      | (exact ⟨q.next (by omega) ((ascC_iff _ _ _ _ _).2 (by omega)), by show l.length - (q.i + 1) < l.length - q.i; omega, (by refine gc_of (keep := [0]) rfl rfl rfl (by decide) ?_ ?_ <;> (repeat' apply And.intro) <;> first | trivial | rfl | exact ⟨_, rfl, rfl, rfl, .inl ⟨rfl, rfl⟩⟩ | exact ⟨_, rfl, rfl, rfl, .inl ⟨cells_nums _ _ _, rfl⟩⟩ | exact ⟨_, rfl, rfl, rfl, .inl ⟨pvs_nums _ _, rfl⟩⟩ | exact ⟨_, rfl, rfl, rfl, .inr ⟨rfl, rfl⟩⟩)⟩)
      | skip
    have hL : ascB l 1 n 1 = true := q.all (by omega)
    clear hg hgp hqi
    refine vloopW (fun q : Okay s.length (ascC s 0 n 0) => ⟨147, 0, [(4, .int .i64 q.i), (1, .ptr 0 0)], [⟨52, true, [.int .i64 id, .int .i64 st, .int .i64 n, .int .i64 b, .pv (.sl (fz encI l)), .pv (.sl (fz encI s))]⟩]⟩) (fun q => s.length - q.i) (Okay.start _ _) (by exact (by refine gc_of (keep := [0]) rfl rfl rfl (by decide) ?_ ?_ <;> (repeat' apply And.intro) <;> first | trivial | rfl | exact ⟨_, rfl, rfl, rfl, .inl ⟨rfl, rfl⟩⟩ | exact ⟨_, rfl, rfl, rfl, .inl ⟨cells_nums _ _ _, rfl⟩⟩ | exact ⟨_, rfl, rfl, rfl, .inl ⟨pvs_nums _ _, rfl⟩⟩ | exact ⟨_, rfl, rfl, rfl, .inr ⟨rfl, rfl⟩⟩)) ?_
    intro q
    have hqi := q.hi
    have hg := fun h : q.i < s.length => fzI_get s q.i h
    have hgp : 0 < (q.i : Int) → (q.i : Int) < s.length → (fz encI s)[((q.i : Int) - 1).toNat]? = some [.lit (.int .i64 (s.getD (q.i - 1) 0))] := fun h h2 => by
      rw [show ((q.i : Int) - 1).toNat = q.i - 1 by omega]; exact fzI_get s (q.i - 1) (by omega)
    (try simp (config := { maxSteps := 2000000 }) (implicitDefEqProofs := false) (disch := first | omega | assumption | (simp only []; done) | fail) only [go_sem, ↓reduceIte, reduceCtorEq, Nat.reduceBEq, Int.reduceBEq])
    repeat' (first
      | (refine vrunG_split (fun hZ => ?_) (fun hZ => ?_) <;> (try rw [hZ]) <;> (try simp only [decide_eq_true_eq, decide_eq_false_iff_not, Bool.or_eq_true, Bool.and_eq_true, Bool.or_eq_false_iff, Bool.and_eq_false_imp, Bool.not_eq_true', Bool.not_eq_false', beq_iff_eq, beq_eq_false_iff_ne, bne_iff_ne, bne_eq_false_iff_eq, ne_eq, Bool.not_eq_eq_eq_not, Bool.not_true, Bool.not_false] at hZ) <;> (try (first | rw [(hZ : _ = false)] | rw [(hZ : _ = true)])) <;> (try simp (config := { maxSteps := 2000000 }) (implicitDefEqProofs := false) (disch := first | omega | assumption | (simp only [List.length_cons, List.length_nil, Nat.zero_add]; done) | fail) only [go_sem, ↓reduceIte, reduceCtorEq, Nat.reduceLT, Nat.reduceBEq, Int.reduceLT, Int.reduceBEq, hg, hgp]))
      | (refine vbr_split (fun hZ => ?_) (fun hZ => ?_) <;> (try rw [hZ]) <;> (try simp only [decide_eq_true_eq, decide_eq_false_iff_not, Bool.or_eq_true, Bool.and_eq_true, Bool.or_eq_false_iff, Bool.and_eq_false_imp, Bool.not_eq_true', Bool.not_eq_false', beq_iff_eq, beq_eq_false_iff_ne, bne_iff_ne, bne_eq_false_iff_eq, ne_eq, Bool.not_eq_eq_eq_not, Bool.not_true, Bool.not_false] at hZ) <;> (try (first | rw [(hZ : _ = false)] | rw [(hZ : _ = true)])) <;> (try simp (config := { maxSteps := 2000000 }) (implicitDefEqProofs := false) (disch := first | omega | assumption | (simp only []; done) | fail) only [go_sem, ↓reduceIte, Nat.reduceBEq, Int.reduceBEq]))
      | (refine vdrG_split (fun hZ => ?_) (fun hZ => ?_) <;> (try rw [hZ]) <;> (try simp only [decide_eq_true_eq, decide_eq_false_iff_not, Bool.or_eq_true, Bool.and_eq_true, Bool.or_eq_false_iff, Bool.and_eq_false_imp, Bool.not_eq_true', Bool.not_eq_false', beq_iff_eq, beq_eq_false_iff_ne, bne_iff_ne, bne_eq_false_iff_eq, ne_eq, Bool.not_eq_eq_eq_not, Bool.not_true, Bool.not_false] at hZ) <;> (try (first | rw [(hZ : _ = false)] | rw [(hZ : _ = true)])) <;> skip)
      | (refine vspine (id := 13) [0, 1, 2, 3, 4, 5, 6, 7, 8, 9, 10, 11, 12, 13, 14, 15, 16, 17, 18, 19, 20, 21, 22, 23, 24, 25, 26, 27, 28, 29, 30, 31, 32, 33] [] (by kernel_rfl) (by kernel_rfl) ?_; (try simp (config := { maxSteps := 2000000 }) (implicitDefEqProofs := false) (disch := first | omega | assumption | (simp only [List.length_cons, List.length_nil, Nat.zero_add]; done) | fail) only [go_sem, ↓reduceIte, reduceCtorEq, Nat.reduceBEq, Int.reduceBEq, hg]))
      )
    all_goals first
      | (rw [e, ascB, ascB, all_not (n := s.length) (c := ascC s 0 n 0) (i := q.i) (by omega) (Bool.eq_false_iff.2 fun h => by rw [ascC_iff] at h; omega)]; simp)
      | (exact ⟨q.next (by omega) ((ascC_iff _ _ _ _ _).2 (by omega)), by show s.length - (q.i + 1) < s.length - q.i; omega, (by refine gc_of (keep := [0]) rfl rfl rfl (by decide) ?_ ?_ <;> (repeat' apply And.intro) <;> first | trivial | rfl | exact ⟨_, rfl, rfl, rfl, .inl ⟨rfl, rfl⟩⟩ | exact ⟨_, rfl, rfl, rfl, .inl ⟨cells_nums _ _ _, rfl⟩⟩ | exact ⟨_, rfl, rfl, rfl, .inl ⟨pvs_nums _ _, rfl⟩⟩ | exact ⟨_, rfl, rfl, rfl, .inr ⟨rfl, rfl⟩⟩)⟩)
      | skip
    rw [e, hh, hL, show ascB s 0 n 0 = true from q.all (by omega)]
    rfl
end Go.Proofs.Ytkbahhackcnnbaa

namespace Go.Proofs.Ytkbahhackcnnbaa
open Go.V Go
set_option maxRecDepth 100000
set_option linter.unusedSimpArgs false

set_option maxHeartbeats 4000000 in
theorem rtvalid_v (l : List Tx) (hl : smL l) : VCalls Try.prog 11 [.pv (.sl (fz encT l))] [] (Ret (.bool (tblB l))) := by
  refine vcalls_drop (fn := Try.f11) Try.func11 rfl (by kernel_rfl) (by simp [Try.f11]) ?_
  obtain ⟨hl, hm⟩ := hl
  have hr := fun (i : Nat) (h : i < l.length) => rright_v l[i] (hm _ (List.getElem_mem h))
  unfold Tx.d at hr
  simp (config := { maxSteps := 2000000 }) (implicitDefEqProofs := false) (disch := first | omega | assumption | (simp only []; done) | fail) only [go_sem, Nat.reduceBEq, Int.reduceBEq, Try.f11]
  skip
  repeat' (first
    | (refine vrunG_split (fun hZ => ?_) (fun hZ => ?_) <;> (try rw [hZ]) <;> (try simp only [decide_eq_true_eq, decide_eq_false_iff_not, Bool.or_eq_true, Bool.and_eq_true, Bool.or_eq_false_iff, Bool.and_eq_false_imp, Bool.not_eq_true', Bool.not_eq_false', beq_iff_eq, beq_eq_false_iff_ne, bne_iff_ne, bne_eq_false_iff_eq, ne_eq, Bool.not_eq_eq_eq_not, Bool.not_true, Bool.not_false] at hZ) <;> (try (first | rw [(hZ : _ = false)] | rw [(hZ : _ = true)])) <;> skip)
    | (refine vbr_split (fun hZ => ?_) (fun hZ => ?_) <;> (try rw [hZ]) <;> (try simp only [decide_eq_true_eq, decide_eq_false_iff_not, Bool.or_eq_true, Bool.and_eq_true, Bool.or_eq_false_iff, Bool.and_eq_false_imp, Bool.not_eq_true', Bool.not_eq_false', beq_iff_eq, beq_eq_false_iff_ne, bne_iff_ne, bne_eq_false_iff_eq, ne_eq, Bool.not_eq_eq_eq_not, Bool.not_true, Bool.not_false] at hZ) <;> (try (first | rw [(hZ : _ = false)] | rw [(hZ : _ = true)])) <;> (try simp (config := { maxSteps := 2000000 }) (implicitDefEqProofs := false) (disch := first | omega | assumption | (simp only []; done) | fail) only [go_sem]))
    | (refine vdrG_split (fun hZ => ?_) (fun hZ => ?_) <;> (try rw [hZ]) <;> (try simp only [decide_eq_true_eq, decide_eq_false_iff_not, Bool.or_eq_true, Bool.and_eq_true, Bool.or_eq_false_iff, Bool.and_eq_false_imp, Bool.not_eq_true', Bool.not_eq_false', beq_iff_eq, beq_eq_false_iff_ne, bne_iff_ne, bne_eq_false_iff_eq, ne_eq, Bool.not_eq_eq_eq_not, Bool.not_true, Bool.not_false] at hZ) <;> (try (first | rw [(hZ : _ = false)] | rw [(hZ : _ = true)])) <;> skip)
    )
  · rw [tblB, decide_eq_false (by omega)]; rfl
  refine vloopW (fun s : Okay l.length (tC l) => ⟨37, 0, [(3, .int .i64 s.i), (0, .pv (.sl (fz encT l)))], []⟩) (fun s => l.length - s.i) (Okay.start _ _) (.inl (by refine ⟨rfl, rfl, by simp, ?_, ?_, .inr ⟨?_, ?_⟩⟩ <;> (repeat' apply And.intro) <;> first | rfl | trivial | (intro _; first | rfl | apply cells_refs))) ?_
  intro s
  have hsi := s.hi
  have hg := fun h : s.i < l.length => fzT_at l s.i h
  have hd := fun h : s.i < l.length => getD_eq l s.i h Tx0
  have hgp : 0 < (s.i : Int) → (s.i : Int) < l.length → (fz encT l)[((s.i : Int) - 1).toNat]? = some [.lit (.int .i64 (l.getD (s.i - 1) Tx0).id), .lit (.int .i64 (l.getD (s.i - 1) Tx0).st), .lit (.int .i64 (l.getD (s.i - 1) Tx0).n), .lit (.int .i64 (l.getD (s.i - 1) Tx0).b), .sl (fz encI (l.getD (s.i - 1) Tx0).l), .sl (fz encI (l.getD (s.i - 1) Tx0).s)] := fun h h2 => by
    rw [show ((s.i : Int) - 1).toNat = s.i - 1 by omega, getD_eq l (s.i - 1) (by omega)]; exact fzT_at l (s.i - 1) (by omega)
  (try simp (config := { maxSteps := 2000000 }) (implicitDefEqProofs := false) (disch := first | omega | assumption | (simp only []; done) | fail) only [go_sem, Nat.reduceBEq, Int.reduceBEq])
  repeat' (first
    | (refine vrunG_split (fun hZ => ?_) (fun hZ => ?_) <;> (try rw [hZ]) <;> (try simp only [decide_eq_true_eq, decide_eq_false_iff_not, Bool.or_eq_true, Bool.and_eq_true, Bool.or_eq_false_iff, Bool.and_eq_false_imp, Bool.not_eq_true', Bool.not_eq_false', beq_iff_eq, beq_eq_false_iff_ne, bne_iff_ne, bne_eq_false_iff_eq, ne_eq, Bool.not_eq_eq_eq_not, Bool.not_true, Bool.not_false] at hZ) <;> (try (first | rw [(hZ : _ = false)] | rw [(hZ : _ = true)])) <;> (try simp (config := { maxSteps := 2000000 }) (implicitDefEqProofs := false) (disch := first | omega | assumption | (simp only [List.length_cons, List.length_nil, Nat.zero_add, Nat.reduceAdd]; done) | fail) only [go_sem, ↓reduceIte, reduceCtorEq, Nat.reduceLT, Nat.reduceBEq, Int.reduceLT, Int.reduceBEq, hg, hgp]))
    | (refine vbr_split (fun hZ => ?_) (fun hZ => ?_) <;> (try rw [hZ]) <;> (try simp only [decide_eq_true_eq, decide_eq_false_iff_not, Bool.or_eq_true, Bool.and_eq_true, Bool.or_eq_false_iff, Bool.and_eq_false_imp, Bool.not_eq_true', Bool.not_eq_false', beq_iff_eq, beq_eq_false_iff_ne, bne_iff_ne, bne_eq_false_iff_eq, ne_eq, Bool.not_eq_eq_eq_not, Bool.not_true, Bool.not_false] at hZ) <;> (try (first | rw [(hZ : _ = false)] | rw [(hZ : _ = true)])) <;> (try simp (config := { maxSteps := 2000000 }) (implicitDefEqProofs := false) (disch := first | omega | assumption | (simp only []; done) | fail) only [go_sem, ↓reduceIte, Nat.reduceBEq, Int.reduceBEq]))
    | (refine vdrG_split (fun hZ => ?_) (fun hZ => ?_) <;> (try rw [hZ]) <;> (try simp only [decide_eq_true_eq, decide_eq_false_iff_not, Bool.or_eq_true, Bool.and_eq_true, Bool.or_eq_false_iff, Bool.and_eq_false_imp, Bool.not_eq_true', Bool.not_eq_false', beq_iff_eq, beq_eq_false_iff_ne, bne_iff_ne, bne_eq_false_iff_eq, ne_eq, Bool.not_eq_eq_eq_not, Bool.not_true, Bool.not_false] at hZ) <;> (try (first | rw [(hZ : _ = false)] | rw [(hZ : _ = true)])) <;> skip)
    | (refine vc_pure (hr s.i (by omega)) rfl ?_; (try simp (config := { maxSteps := 2000000 }) (implicitDefEqProofs := false) (disch := first | omega | assumption | (simp only []; done) | fail) only [go_sem]))
    | (refine vspine (id := 6) [0, 1, 2, 3] [⟨[], [], 4, [0, 1, 2], [5, 6, 7, 8, 9, 10, 11, 12, 13, 14, 15, 16, 17, 18, 19, 20, 21, 22, 23]⟩] (by kernel_rfl) (by kernel_rfl) ?_; (try simp (config := { maxSteps := 2000000 }) (implicitDefEqProofs := false) (disch := first | omega | assumption | (simp only [List.length_cons, List.length_nil, Nat.zero_add, Nat.reduceAdd]; done) | fail) only [go_sem, ↓reduceIte, Nat.reduceAdd, Nat.reduceBEq, Int.reduceAdd, Int.reduceBEq, hg]))
    )
  all_goals first
    | (rw [tblB, all_not (i := s.i) (by omega) (Bool.eq_false_iff.2 fun h => by rw [tC_iff, hd (by omega)] at h; omega), Bool.and_false])
    | (rw [tblB, all_not (i := s.i) (by omega) (Bool.eq_false_iff.2 fun h => by rw [tC_iff, hd (by omega)] at h; first | exact absurd h.1 (by assumption) | (have h1 := h.1; simp_all)), Bool.and_false])
    | (rw [tblB, s.all (by omega), decide_eq_true (by omega)]; rfl)
    | (exact ⟨s.next (by omega) ((tC_iff _ _).2 ⟨by rw [hd (by omega)]; assumption, by rw [hd (by omega)]; omega⟩), by show l.length - (s.i + 1) < l.length - s.i; omega, (by refine gc_of (keep := []) rfl rfl rfl (by decide) ?_ ?_ <;> (repeat' apply And.intro) <;> first | trivial | rfl | exact ⟨_, rfl, rfl, rfl, .inl ⟨rfl, rfl⟩⟩ | exact ⟨_, rfl, rfl, rfl, .inl ⟨cells_nums _ _ _, rfl⟩⟩ | exact ⟨_, rfl, rfl, rfl, .inl ⟨pvs_nums _ _, rfl⟩⟩ | exact ⟨_, rfl, rfl, rfl, .inr ⟨rfl, rfl⟩⟩)⟩)
    | skip
end Go.Proofs.Ytkbahhackcnnbaa

namespace Go.Proofs.Ytkbahhackcnnbaa
open Go.V Go
set_option maxRecDepth 100000
set_option linter.unusedSimpArgs false

set_option maxHeartbeats 2000000 in
theorem insertT_v (l : List Tx) (x : Tx) (i : Nat) (hi : i ≤ l.length) (hl : l.length ≤ 1000000) :
    VCalls Try.prog 48 [.own 0 6 0 l.length, .int .i64 i, .own 1 6 0 1] [⟨52, true, cells encT l⟩, ⟨52, true, cells encT [x]⟩]
      (NewSl noK [⟨52, true, cells encT l⟩, ⟨52, true, cells encT [x]⟩] 6 (l.length + 1) 52 (cells encT (l.take i ++ x :: l.drop i))) := by
  refine VCalls.newSl ?_
  have hcl : (cells encT l).length = l.length * 6 := cells_len encT l
  have hc1 : (cells encT [x]).length = 6 := by rw [cells_len]; rfl
  have ht1 : (cells encT [x]).take 6 = cells encT [x] := take_all encT [x] _ rfl
  by_cases he : i = l.length
  · subst he
    refine vcalls_keep (fn := Try.f48) Try.func48 rfl (by kernel_rfl) (by simp [Try.f48]) ?_
    have hb : (l.length + 1) * 80 ≤ 140737488355328 := by omega
    have hta : (cells encT l).take (l.length * 6) = cells encT l := take_all encT l _ (by show _ = l.length * 6; omega)
    simp (config := { maxSteps := 2000000 }) (implicitDefEqProofs := false) (disch := first | omega | assumption | (simp only []; done) | fail) only [go_sem, ↓reduceIte, Nat.reduceAdd, Nat.reduceBEq, Int.reduceAdd, Int.reduceBEq, Try.f48, hcl, hc1, hta, ht1, hb]
    exact ⟨by simp, .inr ⟨_, .inl rfl, by simp, by rw [← ins_end]; rfl, cells_nums _ _ _⟩⟩
  · have hlt : i < l.length := by omega
    refine VCalls.room (by omega) fun cap hcap => ?_
    by_cases hr : l.length + 1 ≤ cap
    · have hr1 : ¬ (cap : Int) < (l.length : Int) + 1 := by omega
      have hi1 : i + 1 ≤ l.length + 1 := by omega
      have hic : i + 1 ≤ cap := by omega
      have hne : ¬ (i : Int) = l.length := by omega
      have ei : ((i : Int) + 1).toNat = i + 1 := by omega
      have el : ((l.length : Int) + 1).toNat = l.length + 1 := by omega
      refine vcalls_keep (fn := Try.f48) Try.func48 rfl (by kernel_rfl) (by simp [Try.f48]) ?_
      simp (config := { maxSteps := 2000000 }) (implicitDefEqProofs := false) (disch := first | omega | assumption | (simp only []; done) | fail) only [go_sem, Nat.reduceAdd, Nat.reduceBEq, Int.reduceAdd, Int.reduceBEq, Try.f48, hr1, Int.natCast_one, ei, el]
      refine (vcalls_apart (k := 1) (k2 := 0) (fn := Try.f72) (tS := 23) (tR := 4) (e := 52) (n := 6) Try.func72 (by kernel_rfl) rfl (by kernel_rfl) (by kernel_rfl) (by kernel_rfl) rfl rfl rfl rfl (by decide) (by omega) (by show 0 < (cells encT l).length; omega)).mono ?_
      rintro r h' ⟨rfl, rfl⟩
      simp (config := { maxSteps := 2000000 }) (implicitDefEqProofs := false) (disch := first | omega | assumption | (simp only []; done) | fail) only [go_sem]
      refine vspine (id := 15) [0, 1, 2, 3, 4, 5, 6, 7] [⟨[], [], 8, [0, 1, 2, 3, 5, 6], []⟩] (by kernel_rfl) (by kernel_rfl) ?_
      have hmin : min (l.length + 1 - i) (l.length + 1 - (i + 1)) = l.length - i := by omega
      have hmin2 : min 1 (l.length + 1 - i) = 1 := by omega
      have hof : (i + 1) * 6 ≤ l.length * 6 := by omega
      have hle : (l.length - i) * 6 ≤ l.length * 6 - i * 6 := by omega
      have hup : splice (cells encT l) ((i + 1) * 6) (((cells encT l).drop (i * 6)).take ((l.length - i) * 6)) = cells encT (l.take (i + 1) ++ l.drop i) := ins_up encT l i hlt
      have hin : splice (cells encT (l.take (i + 1) ++ l.drop i)) (i * 6) (cells encT [x]) = cells encT (l.take i ++ x :: l.drop i) := ins_in encT l x i hlt
      have hl2 : (cells encT (l.take (i + 1) ++ l.drop i)).length = (l.length + 1) * 6 := by rw [cells_len, List.length_append, List.length_take, List.length_drop]; show _ * 6 = _; omega
      have hof2 : i * 6 ≤ (l.length + 1) * 6 := by omega
      simp (config := { maxSteps := 2000000 }) (implicitDefEqProofs := false) (disch := first | omega | assumption | (simp only []; done) | fail) only [go_sem, ↓reduceIte, Nat.reduceBEq, Int.reduceBEq, hcl, hc1, Int.natCast_one, ei, hmin, hmin2, hof, hle, List.length_drop, hup, hin, hl2, hof2, ht1]
      exact ⟨by simp, .inr ⟨0, .inr ⟨cap, by omega, rfl⟩, by simp, rfl, cells_nums _ _ _⟩⟩
    · have hr1 : (cap : Int) < (l.length : Int) + 1 := by omega
      have hne : ¬ (i : Int) = l.length := by omega
      have ei : ((i : Int) + 1).toNat = i + 1 := by omega
      have eL : ((l.length : Int) + 1 - i).toNat = l.length + 1 - i := by omega
      have eS : i + (l.length + 1 - i) = l.length + 1 := by omega
      have hb : (l.length + 1) * 80 ≤ 140737488355328 := by omega
      have hcz : cap < l.length + 1 := by omega
      have hl0 : (0 : Int) < (l.length : Int) + 1 - i := by omega
      have hlz : (l.length : Int) + 1 - i ≤ 1000000000 := by omega
      have hoi : i * 6 ≤ l.length * 6 := by omega
      have hic : i ≤ cap := by omega
      generalize hZ : mk [.pv (.lit (.int .i64 0)), .pv (.lit (.int .i64 0)), .pv (.lit (.int .i64 0)), .pv (.lit (.int .i64 0)), .pv (.slc []), .pv (.slc [])] (l.length + 1 - i) = Z
      have hZl : Z.length = (l.length + 1 - i) * 6 := by rw [← hZ, mk_length]; rfl
      have hg1 : (cells encT l).take (i * 6) = cells encT (l.take i) := cells_take encT l i
      have hg2 : splice (cells encT (l.take i) ++ Z) (i * 6) (cells encT [x]) = cells encT (l.take i ++ [x]) ++ Z.drop 6 := ins_g2 encT l x i hlt Z
      have hZd : (Z.drop 6).length = (l.length - i) * 6 := by rw [List.length_drop]; omega
      have hg3 : splice (cells encT (l.take i ++ [x]) ++ Z.drop 6) ((i + 1) * 6) (((cells encT l).drop (i * 6)).take ((l.length - i) * 6)) = cells encT (l.take i ++ x :: l.drop i) := ins_g3 encT l x i hlt (Z.drop 6) (by rw [hZd]; rfl)
      have hmin : min 1 (l.length + 1 - i) = 1 := by omega
      have hmin2 : min (l.length - i) (l.length + 1 - (i + 1)) = l.length - i := by omega
      have hl1 : (cells encT (l.take i) ++ Z).length = (l.length + 1) * 6 := by rw [List.length_append, hZl, cells_len, List.length_take]; show _ * 6 + _ = _; omega
      have hl2 : (cells encT (l.take i ++ [x]) ++ Z.drop 6).length = (l.length + 1) * 6 := by rw [List.length_append, hZd, cells_len, List.length_append, List.length_take]; show (_ + 1) * 6 + _ = _; omega
      have hf1 : i * 6 + (l.length + 1 - i) * 6 ≤ (l.length + 1) * 6 := by omega
      have hf2 : (i + 1) * 6 ≤ (l.length + 1) * 6 := by omega
      have hle : (l.length - i) * 6 ≤ l.length * 6 - i * 6 := by omega
      refine vcalls_keep (fn := Try.f48) Try.func48 rfl (by kernel_rfl) (by simp [Try.f48]) ?_
      simp (config := { maxSteps := 2000000 }) (implicitDefEqProofs := false) (disch := first | omega | assumption | (simp only []; done) | fail) only [go_sem, ↓reduceIte, Nat.reduceAdd, Nat.reduceBEq, Int.reduceAdd, Int.reduceBEq, Try.f48, hcl, hc1, hr1, Int.natCast_one, eL, eS, hb, hcz, hl0, hlz, hoi, hZ, hg1, hg2, hmin, hl1, ht1, hf1]
      refine vspine (id := 11) [0, 1, 2, 3, 4, 5, 6, 7] [⟨[], [], 8, [0, 1, 2, 3, 5, 6], []⟩] (by kernel_rfl) (by kernel_rfl) ?_
      simp (config := { maxSteps := 2000000 }) (implicitDefEqProofs := false) (disch := first | omega | assumption | (simp only []; done) | fail) only [go_sem, ↓reduceIte, Nat.reduceBEq, Int.reduceBEq, hcl, ei, hg3, hmin2, hl2, hf2, hle, List.length_drop]
      exact ⟨by simp, .inr ⟨2, .inl rfl, by simp, rfl, cells_nums _ _ _⟩⟩
theorem cloneI_v (l : List Int) (hl : l.length ≤ 1000000) : VCalls Try.prog 40 [.pv (.sl (fz encI l))] [] (NewSl noK [] 1 l.length 3 (cells encI l)) := by
  refine VCalls.newSl ?_
  by_cases hz : l = []
  · subst hz
    refine VCalls.open0 fun ad cap hs => ?_
    refine vcalls_keep (fn := Try.f40) Try.func40 rfl (by kernel_rfl) (by simp [Try.f40]) ?_
    simp (config := { maxSteps := 2000000 }) (implicitDefEqProofs := false) (disch := first | omega | assumption | (simp only []; done) | fail) only [go_sem, Nat.reduceBEq, Int.reduceBEq, Try.f40, Try.underlying45]
    refine vbr_split (fun h => ?_) (fun h => ?_)
    · simp (config := { maxSteps := 2000000 }) (implicitDefEqProofs := false) (disch := first | omega | assumption | (simp only []; done) | fail) only [go_sem]
      exact ⟨by simp, .inl ⟨rfl, rfl, rfl⟩⟩
    · simp (config := { maxSteps := 2000000 }) (implicitDefEqProofs := false) (disch := first | omega | assumption | (simp only []; done) | fail) only [go_sem, V.mk, ↓reduceIte, Nat.reduceLT, Nat.reduceLeDiff, Nat.reduceBEq, Int.reduceLT, Int.reduceBEq]
      exact ⟨by simp, .inr ⟨_, .inl rfl, by simp, rfl, rfl⟩⟩
  · have hp : 0 < l.length := List.length_pos_iff.2 hz
    refine vcalls_keep (fn := Try.f40) Try.func40 rfl (by kernel_rfl) (by simp [Try.f40]) ?_
    have h0 := isNil_fz encI l hp
    have hx : (fz encI l)[0]?.map List.length = some 1 := fz_has encI l hp
    have hb : l.length * 8 ≤ 140737488355328 := by omega
    have hfl : pvs (fz encI l) = cells encI l := fz_flat encI l
    simp (config := { maxSteps := 2000000 }) (implicitDefEqProofs := false) (disch := first | omega | assumption | (simp only []; done) | fail) only [go_sem, V.mk, ↓reduceIte, Nat.reduceLT, Nat.reduceLeDiff, Nat.reduceBEq, Int.reduceLT, Int.reduceBEq, Try.f40, Try.underlying45, h0, hx, hb]
    exact ⟨by simp, .inr ⟨_, .inl rfl, by simp, rfl, cells_nums _ _ _⟩⟩
theorem cnan_v (x : Int) : VCalls Try.prog 86 [.int .i64 x] [] (Ret (.bool false)) := by
  refine vcalls_drop (fn := Try.f86) Try.func86 rfl (by kernel_rfl) (by simp [Try.f86]) ?_
  simp (config := { maxSteps := 2000000 }) (implicitDefEqProofs := false) (disch := first | omega | assumption | (simp only []; done) | fail) only [go_sem, Nat.reduceLT, Nat.reduceBEq, Int.reduceLT, Int.reduceBEq, Try.f86]
theorem snan_v (x : Int) : VCalls Try.prog 69 [.int .i64 x] [] (Ret (.bool false)) := by
  refine vcalls_drop (fn := Try.f69) Try.func69 rfl (by kernel_rfl) (by simp [Try.f69]) ?_
  simp (config := { maxSteps := 2000000 }) (implicitDefEqProofs := false) (disch := first | omega | assumption | (simp only []; done) | fail) only [go_sem, Nat.reduceLT, Nat.reduceBEq, Int.reduceLT, Int.reduceBEq, Try.f69]
theorem less_v (x y : Int) : VCalls Try.prog 68 [.int .i64 x, .int .i64 y] [] (Ret (.bool (decide (x < y)))) := by
  refine vcalls_drop (fn := Try.f68) Try.func68 rfl (by kernel_rfl) (by simp [Try.f68]) ?_
  simp (config := { maxSteps := 2000000 }) (implicitDefEqProofs := false) (disch := first | omega | assumption | (simp only []; done) | fail) only [go_sem, Nat.reduceAdd, Nat.reduceBEq, Int.reduceAdd, Int.reduceBEq, Try.f68]
  skip
  repeat' (first
    | (refine vrunG_split (fun hZ => ?_) (fun hZ => ?_) <;> (try rw [hZ]) <;> (try simp only [decide_eq_true_eq, decide_eq_false_iff_not, Bool.or_eq_true, Bool.and_eq_true, Bool.or_eq_false_iff, Bool.and_eq_false_imp, Bool.not_eq_true', Bool.not_eq_false', beq_iff_eq, beq_eq_false_iff_ne, bne_iff_ne, bne_eq_false_iff_eq, ne_eq, Bool.not_eq_eq_eq_not, Bool.not_true, Bool.not_false] at hZ) <;> (try (first | rw [(hZ : _ = false)] | rw [(hZ : _ = true)])) <;> skip)
    | (refine vbr_split (fun hZ => ?_) (fun hZ => ?_) <;> (try rw [hZ]) <;> (try simp only [decide_eq_true_eq, decide_eq_false_iff_not, Bool.or_eq_true, Bool.and_eq_true, Bool.or_eq_false_iff, Bool.and_eq_false_imp, Bool.not_eq_true', Bool.not_eq_false', beq_iff_eq, beq_eq_false_iff_ne, bne_iff_ne, bne_eq_false_iff_eq, ne_eq, Bool.not_eq_eq_eq_not, Bool.not_true, Bool.not_false] at hZ) <;> (try (first | rw [(hZ : _ = false)] | rw [(hZ : _ = true)])) <;> skip)
    | (refine vdrG_split (fun hZ => ?_) (fun hZ => ?_) <;> (try rw [hZ]) <;> (try simp only [decide_eq_true_eq, decide_eq_false_iff_not, Bool.or_eq_true, Bool.and_eq_true, Bool.or_eq_false_iff, Bool.and_eq_false_imp, Bool.not_eq_true', Bool.not_eq_false', beq_iff_eq, beq_eq_false_iff_ne, bne_iff_ne, bne_eq_false_iff_eq, ne_eq, Bool.not_eq_eq_eq_not, Bool.not_true, Bool.not_false] at hZ) <;> (try (first | rw [(hZ : _ = false)] | rw [(hZ : _ = true)])) <;> skip)
    | (refine vc_pure (cnan_v x) rfl ?_; (try simp (config := { maxSteps := 2000000 }) (implicitDefEqProofs := false) (disch := first | omega | assumption | (simp only []; done) | fail) only [go_sem, Nat.reduceLT, Nat.reduceBEq, Int.reduceLT, Int.reduceBEq]))
    )
set_option maxHeartbeats 1000000 in
theorem bsearchI_v (l : List Int) (hl : l.length ≤ 1000000) (y : Int) (hF : Fore l (fun x => decide (x < y))) :
    VCalls Try.prog 37 [.pv (.sl (fz encI l)), .int .i64 y] [] (Ret (.tup [.int .i64 (lo l (fun x => decide (x < y))), .bool ((l[lo l (fun x => decide (x < y))]?.map fun x => x == y).getD false)])) := by
  refine vcalls_drop (fn := Try.f37) Try.func37 rfl (by kernel_rfl) (by simp [Try.f37]) ?_
  simp (config := { maxSteps := 2000000 }) (implicitDefEqProofs := false) (disch := first | omega | assumption | (simp only []; done) | fail) only [go_sem, Nat.reduceAdd, Nat.reduceBEq, Int.reduceAdd, Int.reduceBEq, Try.f37]
  refine vloop (fun s : BS l (fun x => decide (x < y)) => ⟨54, 0, [(8, .int .i64 s.j), (7, .int .i64 s.i), (6, .int .i64 l.length), (0, .pv (.sl (fz encI l))), (1, .int .i64 y)], []⟩) (fun s => s.j - s.i) (BS.start l _) (by refine ⟨rfl, rfl, by simp, ?_, ?_, .inl rfl⟩ <;> (repeat' apply And.intro) <;> first | rfl | trivial) ?_
  intro s
  have hij := s.hij
  have hj := s.hj
  have hh := half s.i s.j (by omega) hij
  simp (config := { maxSteps := 2000000 }) (implicitDefEqProofs := false) (disch := first | omega | assumption | (simp only []; done) | fail) only [go_sem, Nat.reduceBEq, Int.reduceBEq]
  refine vbr_split (fun hc1 => ?_) (fun hc1 => ?_) <;> simp only [decide_eq_true_eq, decide_eq_false_iff_not, Bool.or_eq_true, Bool.and_eq_true, Bool.or_eq_false_iff, Bool.and_eq_false_imp, Bool.not_eq_true', Bool.not_eq_false', beq_iff_eq, beq_eq_false_iff_ne, bne_iff_ne, bne_eq_false_iff_eq, ne_eq] at hc1
  · have hlt : (s.i + s.j) / 2 < l.length := by omega
    have hg : (fz encI l)[(s.i + s.j) / 2]? = some [.lit (.int .i64 l[(s.i + s.j) / 2])] := fz_at encI l _ hlt
    simp (config := { maxSteps := 2000000 }) (implicitDefEqProofs := false) (disch := first | omega | assumption | (simp only [List.length_cons, List.length_nil, Nat.zero_add]; done) | fail) only [go_sem, Nat.reduceBEq, Int.reduceToNat, Int.reduceBEq, hh, hg]
    refine vc_pure (less_v l[(s.i + s.j) / 2] y) rfl ?_
    simp (config := { maxSteps := 2000000 }) (implicitDefEqProofs := false) (disch := first | omega | assumption) only [go_sem]
    refine vbr_split (fun hx => ?_) (fun hx => ?_) <;> simp only [decide_eq_true_eq, decide_eq_false_iff_not, Bool.or_eq_true, Bool.and_eq_true, Bool.or_eq_false_iff, Bool.and_eq_false_imp, Bool.not_eq_true', Bool.not_eq_false', beq_iff_eq, beq_eq_false_iff_ne, bne_iff_ne, bne_eq_false_iff_eq, ne_eq] at hx
    · simp (config := { maxSteps := 2000000 }) (implicitDefEqProofs := false) (disch := first | omega | assumption | (simp only []; done) | fail) only [go_sem, Nat.reduceBEq, Int.reduceBEq]
      exact ⟨s.up hF _ (by omega) (by omega) (decide_eq_true hx), by show s.j - ((s.i + s.j) / 2 + 1) < s.j - s.i; omega, (by refine ⟨rfl, rfl, by simp, ?_, ?_, .inl rfl⟩ <;> (repeat' apply And.intro) <;> first | rfl | trivial)⟩
    · simp (config := { maxSteps := 2000000 }) (implicitDefEqProofs := false) (disch := first | omega | assumption | (simp only []; done) | fail) only [go_sem, Nat.reduceBEq, Int.reduceBEq]
      exact ⟨s.down ((s.i + s.j) / 2) (by omega) (by omega) (decide_eq_false hx), by show (s.i + s.j) / 2 - s.i < s.j - s.i; omega, (by refine ⟨rfl, rfl, by simp, ?_, ?_, .inl rfl⟩ <;> (repeat' apply And.intro) <;> first | rfl | trivial)⟩
  · have hlo := s.fin (by omega)
    rw [hlo]
    by_cases hin : s.i < l.length
    · have hg : (fz encI l)[s.i]? = some [.lit (.int .i64 l[s.i])] := fz_at encI l _ hin
      have hin' : (s.i : Int) < l.length := by omega
      have e : (l[s.i]?.map fun x => x == y).getD false = (l[s.i] == y) := by rw [List.getElem?_eq_getElem hin]; rfl
      rw [e]
      by_cases he : l[s.i] = y
      · have he' : (l[s.i] == y) = true := by simpa using he
        (try simp (config := { maxSteps := 2000000 }) (implicitDefEqProofs := false) (disch := first | omega | assumption | (simp only [List.length_cons, List.length_nil, Nat.zero_add]; done) | fail) only [go_sem, ↓reduceIte, Nat.reduceLT, Nat.reduceBEq, Int.reduceLT, Int.reduceBEq, hin', hg, he])
        repeat' (first
          | (refine vrunG_split (fun hZ => ?_) (fun hZ => ?_) <;> (try rw [hZ]) <;> (try simp only [decide_eq_true_eq, decide_eq_false_iff_not, Bool.or_eq_true, Bool.and_eq_true, Bool.or_eq_false_iff, Bool.and_eq_false_imp, Bool.not_eq_true', Bool.not_eq_false', beq_iff_eq, beq_eq_false_iff_ne, bne_iff_ne, bne_eq_false_iff_eq, ne_eq, Bool.not_eq_eq_eq_not, Bool.not_true, Bool.not_false] at hZ) <;> (try (first | rw [(hZ : _ = false)] | rw [(hZ : _ = true)])) <;> skip)
          | (refine vbr_split (fun hZ => ?_) (fun hZ => ?_) <;> (try rw [hZ]) <;> (try simp only [decide_eq_true_eq, decide_eq_false_iff_not, Bool.or_eq_true, Bool.and_eq_true, Bool.or_eq_false_iff, Bool.and_eq_false_imp, Bool.not_eq_true', Bool.not_eq_false', beq_iff_eq, beq_eq_false_iff_ne, bne_iff_ne, bne_eq_false_iff_eq, ne_eq, Bool.not_eq_eq_eq_not, Bool.not_true, Bool.not_false] at hZ) <;> (try (first | rw [(hZ : _ = false)] | rw [(hZ : _ = true)])) <;> skip)
          | (refine vdrG_split (fun hZ => ?_) (fun hZ => ?_) <;> (try rw [hZ]) <;> (try simp only [decide_eq_true_eq, decide_eq_false_iff_not, Bool.or_eq_true, Bool.and_eq_true, Bool.or_eq_false_iff, Bool.and_eq_false_imp, Bool.not_eq_true', Bool.not_eq_false', beq_iff_eq, beq_eq_false_iff_ne, bne_iff_ne, bne_eq_false_iff_eq, ne_eq, Bool.not_eq_eq_eq_not, Bool.not_true, Bool.not_false] at hZ) <;> (try (first | rw [(hZ : _ = false)] | rw [(hZ : _ = true)])) <;> skip)
          )
      · have he' : (l[s.i] == y) = false := by simpa using he
        (try simp (config := { maxSteps := 2000000 }) (implicitDefEqProofs := false) (disch := first | omega | assumption | (simp only [List.length_cons, List.length_nil, Nat.zero_add]; done) | fail) only [go_sem, ↓reduceIte, Nat.reduceBEq, Int.reduceBEq, hin', hg, he'])
        repeat' (first
          | (refine vrunG_split (fun hZ => ?_) (fun hZ => ?_) <;> (try rw [hZ]) <;> (try simp only [decide_eq_true_eq, decide_eq_false_iff_not, Bool.or_eq_true, Bool.and_eq_true, Bool.or_eq_false_iff, Bool.and_eq_false_imp, Bool.not_eq_true', Bool.not_eq_false', beq_iff_eq, beq_eq_false_iff_ne, bne_iff_ne, bne_eq_false_iff_eq, ne_eq, Bool.not_eq_eq_eq_not, Bool.not_true, Bool.not_false] at hZ) <;> (try (first | rw [(hZ : _ = false)] | rw [(hZ : _ = true)])) <;> skip)
          | (refine vbr_split (fun hZ => ?_) (fun hZ => ?_) <;> (try rw [hZ]) <;> (try simp only [decide_eq_true_eq, decide_eq_false_iff_not, Bool.or_eq_true, Bool.and_eq_true, Bool.or_eq_false_iff, Bool.and_eq_false_imp, Bool.not_eq_true', Bool.not_eq_false', beq_iff_eq, beq_eq_false_iff_ne, bne_iff_ne, bne_eq_false_iff_eq, ne_eq, Bool.not_eq_eq_eq_not, Bool.not_true, Bool.not_false] at hZ) <;> (try (first | rw [(hZ : _ = false)] | rw [(hZ : _ = true)])) <;> skip)
          | (refine vdrG_split (fun hZ => ?_) (fun hZ => ?_) <;> (try rw [hZ]) <;> (try simp only [decide_eq_true_eq, decide_eq_false_iff_not, Bool.or_eq_true, Bool.and_eq_true, Bool.or_eq_false_iff, Bool.and_eq_false_imp, Bool.not_eq_true', Bool.not_eq_false', beq_iff_eq, beq_eq_false_iff_ne, bne_iff_ne, bne_eq_false_iff_eq, ne_eq, Bool.not_eq_eq_eq_not, Bool.not_true, Bool.not_false] at hZ) <;> (try (first | rw [(hZ : _ = false)] | rw [(hZ : _ = true)])) <;> skip)
          | (refine vc_pure (snan_v _) rfl ?_; (try simp (config := { maxSteps := 2000000 }) (implicitDefEqProofs := false) (disch := first | omega | assumption | (simp only []; done) | fail) only [go_sem, Nat.reduceLT, Nat.reduceBEq, Int.reduceLT, Int.reduceBEq]))
          )
    · have hin' : ¬ (s.i : Int) < l.length := by omega
      have e : (l[s.i]?.map fun x => x == y).getD false = false := by rw [List.getElem?_eq_none (by omega)]; rfl
      rw [e]
      (try simp (config := { maxSteps := 2000000 }) (implicitDefEqProofs := false) (disch := first | omega | assumption | (simp only []; done) | fail) only [go_sem, ↓reduceIte, Nat.reduceLT, Nat.reduceBEq, Int.reduceLT, Int.reduceBEq, hin'])
      repeat' (first
        | (refine vrunG_split (fun hZ => ?_) (fun hZ => ?_) <;> (try rw [hZ]) <;> (try simp only [decide_eq_true_eq, decide_eq_false_iff_not, Bool.or_eq_true, Bool.and_eq_true, Bool.or_eq_false_iff, Bool.and_eq_false_imp, Bool.not_eq_true', Bool.not_eq_false', beq_iff_eq, beq_eq_false_iff_ne, bne_iff_ne, bne_eq_false_iff_eq, ne_eq, Bool.not_eq_eq_eq_not, Bool.not_true, Bool.not_false] at hZ) <;> (try (first | rw [(hZ : _ = false)] | rw [(hZ : _ = true)])) <;> skip)
        | (refine vbr_split (fun hZ => ?_) (fun hZ => ?_) <;> (try rw [hZ]) <;> (try simp only [decide_eq_true_eq, decide_eq_false_iff_not, Bool.or_eq_true, Bool.and_eq_true, Bool.or_eq_false_iff, Bool.and_eq_false_imp, Bool.not_eq_true', Bool.not_eq_false', beq_iff_eq, beq_eq_false_iff_ne, bne_iff_ne, bne_eq_false_iff_eq, ne_eq, Bool.not_eq_eq_eq_not, Bool.not_true, Bool.not_false] at hZ) <;> (try (first | rw [(hZ : _ = false)] | rw [(hZ : _ = true)])) <;> skip)
        | (refine vdrG_split (fun hZ => ?_) (fun hZ => ?_) <;> (try rw [hZ]) <;> (try simp only [decide_eq_true_eq, decide_eq_false_iff_not, Bool.or_eq_true, Bool.and_eq_true, Bool.or_eq_false_iff, Bool.and_eq_false_imp, Bool.not_eq_true', Bool.not_eq_false', beq_iff_eq, beq_eq_false_iff_ne, bne_iff_ne, bne_eq_false_iff_eq, ne_eq, Bool.not_eq_eq_eq_not, Bool.not_true, Bool.not_false] at hZ) <;> (try (first | rw [(hZ : _ = false)] | rw [(hZ : _ = true)])) <;> skip)
        )
set_option maxHeartbeats 2000000 in
theorem deleteI_v (l : List Int) (i : Nat) (hi : i < l.length) (hl : l.length ≤ 1000000) :
    VCalls Try.prog 39 [.own 0 1 0 l.length, .int .i64 i, .int .i64 ((i : Int) + 1)] [⟨3, true, cells encI l⟩]
      (NewSl noK [⟨3, true, cells encI l⟩] 1 (l.length - 1) 3 (cells encI (l.take i ++ l.drop (i + 1)))) := by
  refine VCalls.newSl_cut (t := [.pv (.lit (.int .i64 0))]) ?_
  refine VCalls.newSl ?_
  refine VCalls.room (by omega) fun cap hcap => ?_
  refine vcalls_keep (fn := Try.f39) Try.func39 rfl (by kernel_rfl) (by simp [Try.f39]) ?_
  have hcl : (cells encI l).length = l.length := cellsI_len l
  have ei : ((i : Int) + 1).toNat = i + 1 := by omega
  have hic : i + 1 ≤ cap := by omega
  have hic2 : i ≤ cap := by omega
  have hic3 : i + 1 ≤ l.length := by omega
  simp (config := { maxSteps := 2000000 }) (implicitDefEqProofs := false) (disch := first | omega | assumption | (simp only []; done) | fail) only [go_sem, Nat.reduceAdd, Nat.reduceBEq, Int.reduceAdd, Int.reduceBEq, Try.f39, ei]
  refine vspine (id := 5) [0, 1, 2, 3, 4, 5] [⟨[], [], 6, [0, 1, 3, 4], []⟩, ⟨[], [], 7, [], []⟩] (by kernel_rfl) (by kernel_rfl) ?_
  have hA : i + (l.length - (i + 1)) = l.length - 1 := by omega
  have hB : (l.length - 1) * 8 ≤ 140737488355328 := by omega
  have hC : i ≤ l.length := by omega
  have hD : l.length - 1 ≤ cap := by omega
  have hE : (l.length - (i + 1)) ≤ l.length - (i + 1) := by omega
  have hF : (i + 1) + (l.length - (i + 1)) ≤ l.length := by omega
  have hG : l.length - (l.length - 1) = 1 := by omega
  have hH : (l.length - 1) + 1 ≤ l.length := by omega
  have hH' : (l.length - 1) + 1 ≤ l.length := by omega
  have hI : splice (cells encI (l.take i ++ l.drop (i + 1) ++ l.drop (l.length - 1))) ((l.length - 1)) [.pv (.lit (.int .i64 0))] = cells encI (l.take i ++ l.drop (i + 1)) ++ [.pv (.lit (.int .i64 0))] := by simpa [encI] using del_clr encI l i hi [.pv (.lit (.int .i64 0))] rfl
  have hJ : (cells encI (l.take i ++ l.drop (i + 1) ++ l.drop (l.length - 1))).length = l.length := by simpa [encI] using del_all encI l i hi
  have hup : splice (cells encI l) (i) (((cells encI l).drop ((i + 1))).take ((l.length - (i + 1)))) = cells encI (l.take i ++ l.drop (i + 1) ++ l.drop (l.length - 1)) := by simpa [encI] using del_up encI l i hi
  have hup2 : splice (cells encI l) (i) ((cells encI l).drop ((i + 1))) = cells encI (l.take i ++ l.drop (i + 1) ++ l.drop (l.length - 1)) := by simpa [encI] using del_up2 encI l i hi
  have hdl := del_len l i hi
  simp (config := { maxSteps := 2000000 }) (implicitDefEqProofs := false) (disch := first | omega | assumption | (simp only []; done) | fail) only [go_sem, V.mk, ↓reduceIte, Nat.reduceLT, Nat.reduceBEq, Int.reduceLT, Int.reduceBEq, ei, hcl, hA, hB, hC, hD, hE, hup, hG, hH, hI, hJ, List.length_drop]
  exact ⟨by simp, .inr ⟨0, .inr ⟨cap, by omega, rfl⟩, by simp, rfl, go_app (cells_nums _ _ _) (by simp [DV.nums, DV.nums.go])⟩⟩
end Go.Proofs.Ytkbahhackcnnbaa

namespace Go.Proofs.Ytkbahhackcnnbaa
open Go.V Go
set_option maxRecDepth 100000
set_option linter.unusedSimpArgs false

/-- What is left when those with p are taken out. -/
def keepL {α : Type} (l : List α) (p : α → Bool) : List α := l.filter fun x => !p x
/-- Those that are left of the first j stand in front. -/
structure DF {α : Type} (l : List α) (p : α → Bool) where
  j : Nat
  hj : j ≤ l.length
  cur : List α
  hl : cur.length = l.length
  h1 : cur.take (keepL (l.take j) p).length = keepL (l.take j) p
  h2 : cur.drop j = l.drop j
  h3 : (keepL (l.take j) p).length < j
def DF.i {α : Type} {l : List α} {p : α → Bool} (s : DF l p) : Nat := (keepL (l.take s.j) p).length
theorem keepL_take_succ {α : Type} (l : List α) (p : α → Bool) (j : Nat) (h : j < l.length) : keepL (l.take (j + 1)) p = keepL (l.take j) p ++ (if p l[j] = true then [] else [l[j]]) := by
  rw [List.take_succ_eq_append_getElem h, keepL, List.filter_append]
  cases hp : p l[j] <;> simp [keepL, hp]
theorem keepL_none {α : Type} (l : List α) (p : α → Bool) (h : ∀ x ∈ l, ¬ p x = true) : keepL l p = l := by
  rw [keepL, List.filter_eq_self]; intro x hx; simpa using h x hx
def DF.start {α : Type} (l : List α) (p : α → Bool) (i : Nat) (h : i < l.length) (hp : p l[i] = true) (no : ∀ x ∈ l.take i, ¬ p x = true) : DF l p :=
  have e : keepL (l.take (i + 1)) p = l.take i := by rw [keepL_take_succ l p i h, if_pos hp, List.append_nil, keepL_none _ p no]
  have el : (l.take i).length = i := by rw [List.length_take]; omega
  ⟨i + 1, h, l, rfl, by rw [e, el], rfl, by rw [e, el]; omega⟩
theorem DF.start_i {α : Type} (l : List α) (p : α → Bool) (i : Nat) (h : i < l.length) (hp : p l[i] = true) (no : ∀ x ∈ l.take i, ¬ p x = true) : (DF.start l p i h hp no).i = i := by
  show (keepL (l.take (i + 1)) p).length = i
  rw [keepL_take_succ l p i h, if_pos hp, List.append_nil, keepL_none _ p no, List.length_take]; omega
theorem DF.get {α : Type} {l : List α} {p : α → Bool} (s : DF l p) (h : s.j < l.length) (d : α) : s.cur.getD s.j d = l[s.j] := by
  have := congrArg (fun x => x[0]?) s.h2
  simp only [List.getElem?_drop, Nat.add_zero] at this
  rw [List.getD_eq_getElem?_getD, this, List.getElem?_eq_getElem h]; rfl
/-- One is taken out. -/
def DF.out {α : Type} {l : List α} {p : α → Bool} (s : DF l p) (h : s.j < l.length) (hp : p l[s.j] = true) : DF l p :=
  have e : keepL (l.take (s.j + 1)) p = keepL (l.take s.j) p := by rw [keepL_take_succ l p s.j h, if_pos hp, List.append_nil]
  ⟨s.j + 1, h, s.cur, s.hl, by rw [e]; exact s.h1, by
    have := congrArg (List.drop 1) s.h2
    rwa [List.drop_drop, List.drop_drop] at this, by rw [e]; have := s.h3; omega⟩
theorem DF.out_i {α : Type} {l : List α} {p : α → Bool} (s : DF l p) (h : s.j < l.length) (hp : p l[s.j] = true) : (s.out h hp).i = s.i := by
  show (keepL (l.take (s.j + 1)) p).length = _
  rw [keepL_take_succ l p s.j h, if_pos hp, List.append_nil]; rfl
/-- One stays. -/
def DF.stay {α : Type} {l : List α} {p : α → Bool} (s : DF l p) (h : s.j < l.length) (hp : ¬ p l[s.j] = true) : DF l p :=
  have e : keepL (l.take (s.j + 1)) p = keepL (l.take s.j) p ++ [l[s.j]] := by rw [keepL_take_succ l p s.j h, if_neg hp]
  have hi : s.i < s.j := s.h3
  have hil : s.i < s.cur.length := by rw [s.hl]; have := s.hj; omega
  ⟨s.j + 1, h, s.cur.set s.i l[s.j], by rw [List.length_set]; exact s.hl, by
    rw [e, List.length_append, List.length_singleton]
    show (s.cur.set s.i l[s.j]).take (s.i + 1) = _
    rw [List.take_succ_eq_append_getElem (by rw [List.length_set]; exact hil), List.getElem_set_self, List.take_set_of_le (Nat.le_refl _)]
    congr 1
    exact s.h1, by
    rw [List.drop_set_of_lt (by omega)]
    have := congrArg (List.drop 1) s.h2
    rwa [List.drop_drop, List.drop_drop] at this, by
    rw [e, List.length_append, List.length_singleton]
    have : (keepL (l.take s.j) p).length = s.i := rfl
    omega⟩
theorem DF.stay_i {α : Type} {l : List α} {p : α → Bool} (s : DF l p) (h : s.j < l.length) (hp : ¬ p l[s.j] = true) : (s.stay h hp).i = s.i + 1 := by
  show (keepL (l.take (s.j + 1)) p).length = _
  rw [keepL_take_succ l p s.j h, if_neg hp, List.length_append]; rfl

theorem keepL_le {α : Type} (l : List α) (p : α → Bool) : (keepL l p).length ≤ l.length := List.length_filter_le _ _
set_option maxHeartbeats 1000000 in
theorem deleteFT_v (l : List Tx) (hl : l.length ≤ 1000000) (g : FuncId) (caps : List DV) (hc : DV.nums.go (fun _ => false) caps = true) (hcf : ∀ hp, allSome (caps.map (frzB hp)) = some caps) (p : Tx → Bool) (hf : ∀ x ∈ l, VCalls Try.prog g (.agg (Tx.d x) :: caps) [] (Ret (.bool (p x)))) :
    VCalls Try.prog 53 [.own 0 6 0 l.length, .fn (.func g) [] caps] [⟨52, true, cells encT l⟩]
      (NewSl noK [⟨52, true, cells encT l⟩] 6 (keepL l p).length 52 (cells encT (keepL l p))) := by
  have hfn : ∀ {q}, (DV.fn (.func g) [] caps).nums q = true := fun {q} => nums_mono q _ (by simpa [DV.nums, DV.nums.go] using hc)
  have hfr : ∀ {σ}, (DV.fn (.func g) [] caps).ren σ = DV.fn (.func g) [] caps := fun {σ} => ren_id σ _ (by simpa [DV.nums, DV.nums.go] using hc)
  refine VCalls.newSl_cut (t := mk [.pv (.lit (.int .i64 0)), .pv (.lit (.int .i64 0)), .pv (.lit (.int .i64 0)), .pv (.lit (.int .i64 0)), .pv (.slc []), .pv (.slc [])] (l.length - (keepL l p).length)) ?_
  refine VCalls.newSl ?_
  have fin : ∀ (r : DV) (h' : Heap), r = .own 0 6 0 (keepL l p).length → (∃ rest, h' = ⟨52, true, cells encT (keepL l p) ++ mk [.pv (.lit (.int .i64 0)), .pv (.lit (.int .i64 0)), .pv (.lit (.int .i64 0)), .pv (.lit (.int .i64 0)), .pv (.slc []), .pv (.slc [])] (l.length - (keepL l p).length)⟩ :: rest) → SomeSl noK [⟨52, true, cells encT l⟩] 6 (keepL l p).length 52 (cells encT (keepL l p) ++ mk [.pv (.lit (.int .i64 0)), .pv (.lit (.int .i64 0)), .pv (.lit (.int .i64 0)), .pv (.lit (.int .i64 0)), .pv (.slc []), .pv (.slc [])] (l.length - (keepL l p).length)) r h' := by
    rintro r h' rfl ⟨rest, rfl⟩
    exact ⟨by simp, .inr ⟨0, .inl rfl, by simp, rfl, go_app (cells_nums _ _ _) (mk_nums _ _ (by simp [DV.nums, DV.nums.go]) _)⟩⟩
  refine vcalls_keep (fn := Try.f53) Try.func53 rfl (by kernel_rfl) (by simp [Try.f53]) ?_
  simp (config := { maxSteps := 2000000 }) (implicitDefEqProofs := false) (disch := first | omega | assumption | (simp only []; done) | fail) only [go_sem, Nat.reduceAdd, Nat.reduceBEq, Int.reduceNeg, Int.reduceAdd, Int.reduceBEq, Try.f53]
  refine vc_lendA (indexFT_v l hl g caps hc p hf) (allSome2 (frzA_own encT l rfl) (by rw [frzA_fn, hcf]; rfl)) rfl ?_
  simp (config := { maxSteps := 2000000 }) (implicitDefEqProofs := false) (disch := first | omega | assumption | (simp only []; done) | fail) only [go_sem, Int.reduceNeg]
  refine vbr_split (fun hx => ?_) (fun hx => ?_)
  · simp (config := { maxSteps := 2000000 }) (implicitDefEqProofs := false) (disch := first | omega | assumption | (simp only []; done) | fail) only [go_sem, Nat.reduceBEq, Int.reduceNeg, Int.reduceBEq]
    have hno : ∀ x ∈ l, ¬ p x = true := by
      intro x hm hp
      rw [idxP, if_pos (List.any_eq_true.2 ⟨x, hm, hp⟩)] at hx
      simp at hx
    have hk := keepL_none l p hno
    refine fin _ _ (by rw [hk]) ⟨[], by rw [hk, Nat.sub_self]; simp [V.mk]⟩
  · have hany : l.any p = true := by
      cases ha : l.any p with
      | true => rfl
      | false => rw [idxP, ha] at hx; simp at hx
    obtain ⟨i, hi, hpi, hno, hidx⟩ : ∃ i, ∃ h : i < l.length, p l[i] = true ∧ (∀ x ∈ l.take i, ¬ p x = true) ∧ idxP l p = i := by
      obtain ⟨x, hm, hp⟩ := List.any_eq_true.1 hany
      have hlt := List.findIdx_lt_length_of_exists ⟨x, hm, hp⟩
      refine ⟨l.findIdx p, hlt, List.findIdx_getElem (w := hlt), fun y hy => ?_, by rw [idxP, if_pos hany]⟩
      obtain ⟨k, hk, rfl⟩ := List.mem_take_iff_getElem.1 hy
      have := List.not_of_lt_findIdx (p := p) (xs := l) (i := k) (by omega)
      simpa using this
    rw [hidx]
    simp (config := { maxSteps := 2000000 }) (implicitDefEqProofs := false) (disch := first | omega | assumption | (simp only []; done) | fail) only [go_sem, Nat.reduceBEq, Int.reduceNeg, Int.reduceBEq]
    refine vloopW (fun s : DF l p => ⟨42, 1, [(6, .int .i64 s.j), (5, .int .i64 s.i), (0, .own 0 6 0 l.length), (1, .fn (.func g) [] caps)], [⟨52, true, cells encT s.cur⟩]⟩) (fun s => l.length - s.j) (DF.start l p i hi hpi hno) ?_ ?_
    · have e0 := DF.start_i l p i hi hpi hno
      have ej : (DF.start l p i hi hpi hno).j = i + 1 := rfl
      have ec : (DF.start l p i hi hpi hno).cur = l := rfl
      rw [e0, ej, ec]
      exact (by refine gc_of (keep := [0]) rfl rfl rfl (by decide) ?_ ?_ <;> (repeat' apply And.intro) <;> first | trivial | rfl | exact hfr.symm | exact hfn | exact ⟨_, rfl, rfl, rfl, .inl ⟨cells_nums _ _ _, rfl⟩⟩)
    intro s
    have hsj := s.hj
    have hcl := s.hl
    have hlen : (cells encT s.cur).length = s.cur.length * 6 := cells_len encT _
    rw [hcl] at hlen
    simp (config := { maxSteps := 2000000 }) (implicitDefEqProofs := false) (disch := first | omega | assumption | (simp only []; done) | fail) only [go_sem, Nat.reduceBEq, Int.reduceBEq]
    refine vbr_split (fun hc1 => ?_) (fun hc1 => ?_) <;> simp only [decide_eq_true_eq, decide_eq_false_iff_not, Bool.or_eq_true, Bool.and_eq_true, Bool.or_eq_false_iff, Bool.and_eq_false_imp, Bool.not_eq_true', Bool.not_eq_false', beq_iff_eq, beq_eq_false_iff_ne, bne_iff_ne, bne_eq_false_iff_eq, ne_eq] at hc1
    · have hlt : s.j < l.length := by omega
      have hg := cells_at encT s.cur s.j (by omega)
      rw [show s.cur[s.j]'(by omega) = l[s.j] from by rw [← s.get hlt Tx0, getD_eq]] at hg
      have hg' : ((cells encT s.cur).drop (s.j * 6)).take 6 = ([.lit (.int .i64 l[s.j].id), .lit (.int .i64 l[s.j].st), .lit (.int .i64 l[s.j].n), .lit (.int .i64 l[s.j].b), .sl (fz encI l[s.j].l), .sl (fz encI l[s.j].s)] : List PV).map DV.pv := hg
      have hm := hf l[s.j] (List.getElem_mem hlt)
      have hb1 : s.j * 6 + 6 ≤ l.length * 6 := by omega
      simp (config := { maxSteps := 2000000 }) (implicitDefEqProofs := false) (disch := first | omega | assumption | (simp only []; done) | fail) only [go_sem, V.splice, ↓reduceIte, Nat.reduceAdd, Nat.reduceBEq, Int.reduceAdd, Int.reduceBEq, hg', hlen, hb1]
      refine vc_pure hm (by simpa [DV.nums.go, DV.nums] using hc) ?_
      simp (config := { maxSteps := 2000000 }) (implicitDefEqProofs := false) (disch := first | omega | assumption | (simp only []; done) | fail) only [go_sem]
      refine vbr_split (fun hp => ?_) (fun hp => ?_)
      · have hp' : ¬ p l[s.j] = true := by simpa using hp
        have hil : s.i < l.length := by have := s.h3; show (keepL (l.take s.j) p).length < _; omega
        have hse : splice (cells encT s.cur) (s.i * 6) (([.lit (.int .i64 l[s.j].id), .lit (.int .i64 l[s.j].st), .lit (.int .i64 l[s.j].n), .lit (.int .i64 l[s.j].b), .sl (fz encI l[s.j].l), .sl (fz encI l[s.j].s)] : List PV).map DV.pv) = cells encT (s.cur.set s.i l[s.j]) := set_in encT s.cur s.i l[s.j] (by omega)
        simp only [List.map_cons, List.map_nil] at hse
        have hb2 : s.i * 6 + 6 ≤ l.length * 6 := by omega
        simp (config := { maxSteps := 2000000 }) (implicitDefEqProofs := false) (disch := first | omega | assumption | (simp only []; done) | fail) only [go_sem, ↓reduceIte, Nat.reduceAdd, Nat.reduceBEq, Int.reduceAdd, Int.reduceBEq, hse, hlen, hb2]
        refine ⟨s.stay hlt hp', by show l.length - (s.j + 1) < l.length - s.j; omega, ?_⟩
        rw [s.stay_i hlt hp']
        exact (by refine gc_of (keep := [0]) rfl rfl rfl (by decide) ?_ ?_ <;> (repeat' apply And.intro) <;> first | trivial | rfl | exact hfr.symm | exact hfn | exact ⟨_, rfl, rfl, rfl, .inl ⟨cells_nums _ _ _, rfl⟩⟩)
      · have hp' : p l[s.j] = true := by simpa using hp
        simp (config := { maxSteps := 2000000 }) (implicitDefEqProofs := false) (disch := first | omega | assumption | (simp only []; done) | fail) only [go_sem, Nat.reduceBEq, Int.reduceBEq]
        refine ⟨s.out hlt hp', by show l.length - (s.j + 1) < l.length - s.j; omega, ?_⟩
        rw [s.out_i hlt hp']
        exact (by refine gc_of (keep := [0]) rfl rfl rfl (by decide) ?_ ?_ <;> (repeat' apply And.intro) <;> first | trivial | rfl | exact hfr.symm | exact hfn | exact ⟨_, rfl, rfl, rfl, .inl ⟨cells_nums _ _ _, rfl⟩⟩)
    · have hjl : s.j = l.length := by omega
      have hil : s.i < l.length := by have := s.h3; show (keepL (l.take s.j) p).length < _; omega
      have hfit : s.i + (l.length - s.i) = s.cur.length := by omega
      have hfit2 : s.i * 6 + (l.length - s.i) * 6 ≤ l.length * 6 := by omega
      have hcz : splice (cells encT s.cur) (s.i * 6) (mk [.pv (.lit (.int .i64 0)), .pv (.lit (.int .i64 0)), .pv (.lit (.int .i64 0)), .pv (.lit (.int .i64 0)), .pv (.slc []), .pv (.slc [])] (l.length - s.i)) = cells encT (s.cur.take s.i) ++ mk [.pv (.lit (.int .i64 0)), .pv (.lit (.int .i64 0)), .pv (.lit (.int .i64 0)), .pv (.lit (.int .i64 0)), .pv (.slc []), .pv (.slc [])] (l.length - s.i) := clear_in encT s.cur s.i (l.length - s.i) [.pv (.lit (.int .i64 0)), .pv (.lit (.int .i64 0)), .pv (.lit (.int .i64 0)), .pv (.lit (.int .i64 0)), .pv (.slc []), .pv (.slc [])] rfl hfit
      have ei : s.i = (keepL l p).length := by show (keepL (l.take s.j) p).length = _; rw [hjl, List.take_length]
      have et : s.cur.take s.i = keepL l p := by have := s.h1; rw [hjl, List.take_length] at this; rw [ei]; exact this
      simp (config := { maxSteps := 2000000 }) (implicitDefEqProofs := false) (disch := first | omega | assumption | (simp only []; done) | fail) only [go_sem, ↓reduceIte, Nat.reduceAdd, Nat.reduceLT, Nat.reduceBEq, Int.reduceLT, Int.reduceAdd, Int.reduceBEq, hlen, hfit2, hcz]
      refine fin _ _ (by rw [ei]) ⟨[], ?_⟩
      rw [et, ei]
end Go.Proofs.Ytkbahhackcnnbaa

namespace Go.Proofs.Ytkbahhackcnnbaa
open Go.V Go
set_option maxRecDepth 100000
set_option linter.unusedSimpArgs false

/-- A cell, a change, an entry. -/
structure Ce where
  set : Bool
  data : List UInt8
structure Ch where
  pg : Int
  sl : Int
  b : Ce
  a : Ce
structure E where
  lsn : Int
  kind : Int
  tx : Int
  ptx : Int
  ppg : Int
  ref : Int
  c : Ch
  blob : List UInt8
def Ce.d (x : Ce) : List DV := [.bool x.set, .pv (.str x.data)]
def Ch.d (x : Ch) : List DV := [.int .i64 x.pg, .int .i64 x.sl, .bool x.b.set, .pv (.str x.b.data), .bool x.a.set, .pv (.str x.a.data)]
def E.d (x : E) : List DV := [.int .i64 x.lsn, .int .i64 x.kind, .int .i64 x.tx, .int .i64 x.ptx, .int .i64 x.ppg, .int .i64 x.ref, .int .i64 x.c.pg, .int .i64 x.c.sl, .bool x.c.b.set, .pv (.str x.c.b.data), .bool x.c.a.set, .pv (.str x.c.a.data), .pv (.str x.blob)]
def Ce0 : Ce := ⟨false, []⟩
def Ch0 : Ch := ⟨0, 0, Ce0, Ce0⟩
def Ce.okB (x : Ce) : Bool := decide (x.data.length ≤ 12) && (x.set || x.data == [])
def Ch.okB (x : Ch) : Bool := decide (0 ≤ x.pg) && decide (x.pg < 64) && decide (0 ≤ x.sl) && decide (x.sl < 16) && x.b.okB && x.a.okB
def Ce.no (x : Ce) : Bool := !x.set && x.data == []
def Ch.no (x : Ch) : Bool := x.pg == 0 && x.sl == 0 && x.b.no && x.a.no
def bef (n l : Int) : Bool := decide (0 ≤ n) && decide (n < l)

theorem cellok_v (x : Ce) : VCalls Try.prog 91 [.agg x.d] [] (Ret (.bool x.okB)) := by
  refine vcalls_drop (fn := Try.f91) Try.func91 rfl (by kernel_rfl) (by simp [Try.f91]) ?_
  simp (config := { maxSteps := 2000000 }) (implicitDefEqProofs := false) (disch := first | omega | assumption | (simp only []; done) | fail) only [go_sem, ↓reduceIte, reduceCtorEq, Nat.reduceBEq, Int.reduceBEq, Try.f91, Ce.d]
  skip
  repeat' (first
    | (refine vrunG_split (fun hZ => ?_) (fun hZ => ?_) <;> (try rw [hZ]) <;> (try simp only [decide_eq_true_eq, decide_eq_false_iff_not, Bool.or_eq_true, Bool.and_eq_true, Bool.or_eq_false_iff, Bool.and_eq_false_imp, Bool.not_eq_true', Bool.not_eq_false', beq_iff_eq, beq_eq_false_iff_ne, bne_iff_ne, bne_eq_false_iff_eq, ne_eq, Bool.not_eq_eq_eq_not, Bool.not_true, Bool.not_false] at hZ) <;> (try (first | rw [(hZ : _ = false)] | rw [(hZ : _ = true)])) <;> (try simp (config := { maxSteps := 2000000 }) (implicitDefEqProofs := false) (disch := first | omega | assumption | (simp only []; done) | fail) only [go_sem, ↓reduceIte, reduceCtorEq, Nat.reduceLT, Nat.reduceBEq, Int.reduceLT, Int.reduceBEq]))
    | (refine vbr_split (fun hZ => ?_) (fun hZ => ?_) <;> (try rw [hZ]) <;> (try simp only [decide_eq_true_eq, decide_eq_false_iff_not, Bool.or_eq_true, Bool.and_eq_true, Bool.or_eq_false_iff, Bool.and_eq_false_imp, Bool.not_eq_true', Bool.not_eq_false', beq_iff_eq, beq_eq_false_iff_ne, bne_iff_ne, bne_eq_false_iff_eq, ne_eq, Bool.not_eq_eq_eq_not, Bool.not_true, Bool.not_false] at hZ) <;> (try (first | rw [(hZ : _ = false)] | rw [(hZ : _ = true)])) <;> skip)
    | (refine vdrG_split (fun hZ => ?_) (fun hZ => ?_) <;> (try rw [hZ]) <;> (try simp only [decide_eq_true_eq, decide_eq_false_iff_not, Bool.or_eq_true, Bool.and_eq_true, Bool.or_eq_false_iff, Bool.and_eq_false_imp, Bool.not_eq_true', Bool.not_eq_false', beq_iff_eq, beq_eq_false_iff_ne, bne_iff_ne, bne_eq_false_iff_eq, ne_eq, Bool.not_eq_eq_eq_not, Bool.not_true, Bool.not_false] at hZ) <;> (try (first | rw [(hZ : _ = false)] | rw [(hZ : _ = true)])) <;> skip)
    )
  all_goals (first | rfl | (congr 3; rw [Bool.eq_iff_iff]; (try simp only [Ce.okB, decide_eq_true_eq, Bool.and_eq_true, Bool.or_eq_true, Bool.not_eq_true', Bool.not_eq_false', decide_eq_false_iff_not, beq_iff_eq, bne_iff_ne, ne_eq, Bool.false_eq_true, Bool.true_eq_false, iff_true, true_iff, iff_false, false_iff]); first | done | omega | grind))
theorem rcellok_v (x : Ce) : VCalls Try.prog 92 [.agg x.d] [] (Ret (.bool x.okB)) := by
  refine vcalls_drop (fn := Try.f92) Try.func92 rfl (by kernel_rfl) (by simp [Try.f92]) ?_
  simp (config := { maxSteps := 2000000 }) (implicitDefEqProofs := false) (disch := first | omega | assumption | (simp only []; done) | fail) only [go_sem, ↓reduceIte, reduceCtorEq, Nat.reduceBEq, Int.reduceBEq, Try.f92, Ce.d]
  skip
  repeat' (first
    | (refine vrunG_split (fun hZ => ?_) (fun hZ => ?_) <;> (try rw [hZ]) <;> (try simp only [decide_eq_true_eq, decide_eq_false_iff_not, Bool.or_eq_true, Bool.and_eq_true, Bool.or_eq_false_iff, Bool.and_eq_false_imp, Bool.not_eq_true', Bool.not_eq_false', beq_iff_eq, beq_eq_false_iff_ne, bne_iff_ne, bne_eq_false_iff_eq, ne_eq, Bool.not_eq_eq_eq_not, Bool.not_true, Bool.not_false] at hZ) <;> (try (first | rw [(hZ : _ = false)] | rw [(hZ : _ = true)])) <;> (try simp (config := { maxSteps := 2000000 }) (implicitDefEqProofs := false) (disch := first | omega | assumption | (simp only []; done) | fail) only [go_sem, ↓reduceIte, reduceCtorEq, Nat.reduceLT, Nat.reduceBEq, Int.reduceLT, Int.reduceBEq]))
    | (refine vbr_split (fun hZ => ?_) (fun hZ => ?_) <;> (try rw [hZ]) <;> (try simp only [decide_eq_true_eq, decide_eq_false_iff_not, Bool.or_eq_true, Bool.and_eq_true, Bool.or_eq_false_iff, Bool.and_eq_false_imp, Bool.not_eq_true', Bool.not_eq_false', beq_iff_eq, beq_eq_false_iff_ne, bne_iff_ne, bne_eq_false_iff_eq, ne_eq, Bool.not_eq_eq_eq_not, Bool.not_true, Bool.not_false] at hZ) <;> (try (first | rw [(hZ : _ = false)] | rw [(hZ : _ = true)])) <;> skip)
    | (refine vdrG_split (fun hZ => ?_) (fun hZ => ?_) <;> (try rw [hZ]) <;> (try simp only [decide_eq_true_eq, decide_eq_false_iff_not, Bool.or_eq_true, Bool.and_eq_true, Bool.or_eq_false_iff, Bool.and_eq_false_imp, Bool.not_eq_true', Bool.not_eq_false', beq_iff_eq, beq_eq_false_iff_ne, bne_iff_ne, bne_eq_false_iff_eq, ne_eq, Bool.not_eq_eq_eq_not, Bool.not_true, Bool.not_false] at hZ) <;> (try (first | rw [(hZ : _ = false)] | rw [(hZ : _ = true)])) <;> skip)
    )
  all_goals (first | rfl | (congr 3; rw [Bool.eq_iff_iff]; (try simp only [Ce.okB, decide_eq_true_eq, Bool.and_eq_true, Bool.or_eq_true, Bool.not_eq_true', Bool.not_eq_false', decide_eq_false_iff_not, beq_iff_eq, bne_iff_ne, ne_eq, Bool.false_eq_true, Bool.true_eq_false, iff_true, true_iff, iff_false, false_iff]); first | done | omega | grind))
theorem none_v (x : Ch) : VCalls Try.prog 82 [.agg x.d] [] (Ret (.bool x.no)) := by
  refine vcalls_drop (fn := Try.f82) Try.func82 rfl (by kernel_rfl) (by simp [Try.f82]) ?_
  simp (config := { maxSteps := 2000000 }) (implicitDefEqProofs := false) (disch := first | omega | assumption | (simp only []; done) | fail) only [go_sem, ↓reduceIte, Nat.reduceAdd, Nat.reduceLT, Nat.reduceBEq, Int.reduceLT, Int.reduceAdd, Int.reduceBEq, Try.f82, Ch.d, allEq, leafEq]
  simp only [Ch.no, Ce.no, Bool.and_assoc]
theorem before_v (n : Int) (x : E) : VCalls Try.prog 66 [.int .i64 n, .agg x.d] [] (Ret (.bool (bef n x.lsn))) := by
  refine vcalls_drop (fn := Try.f66) Try.func66 rfl (by kernel_rfl) (by simp [Try.f66]) ?_
  simp (config := { maxSteps := 2000000 }) (implicitDefEqProofs := false) (disch := first | omega | assumption | (simp only []; done) | fail) only [go_sem, ↓reduceIte, Nat.reduceAdd, Nat.reduceBEq, Int.reduceAdd, Int.reduceBEq, Try.f66, E.d]
  skip
  repeat' (first
    | (refine vrunG_split (fun hZ => ?_) (fun hZ => ?_) <;> (try rw [hZ]) <;> (try simp only [decide_eq_true_eq, decide_eq_false_iff_not, Bool.or_eq_true, Bool.and_eq_true, Bool.or_eq_false_iff, Bool.and_eq_false_imp, Bool.not_eq_true', Bool.not_eq_false', beq_iff_eq, beq_eq_false_iff_ne, bne_iff_ne, bne_eq_false_iff_eq, ne_eq, Bool.not_eq_eq_eq_not, Bool.not_true, Bool.not_false] at hZ) <;> (try (first | rw [(hZ : _ = false)] | rw [(hZ : _ = true)])) <;> (try simp (config := { maxSteps := 2000000 }) (implicitDefEqProofs := false) (disch := first | omega | assumption | (simp only []; done) | fail) only [go_sem, ↓reduceIte, reduceCtorEq, Nat.reduceLT, Nat.reduceBEq, Int.reduceLT, Int.reduceBEq]))
    | (refine vbr_split (fun hZ => ?_) (fun hZ => ?_) <;> (try rw [hZ]) <;> (try simp only [decide_eq_true_eq, decide_eq_false_iff_not, Bool.or_eq_true, Bool.and_eq_true, Bool.or_eq_false_iff, Bool.and_eq_false_imp, Bool.not_eq_true', Bool.not_eq_false', beq_iff_eq, beq_eq_false_iff_ne, bne_iff_ne, bne_eq_false_iff_eq, ne_eq, Bool.not_eq_eq_eq_not, Bool.not_true, Bool.not_false] at hZ) <;> (try (first | rw [(hZ : _ = false)] | rw [(hZ : _ = true)])) <;> skip)
    | (refine vdrG_split (fun hZ => ?_) (fun hZ => ?_) <;> (try rw [hZ]) <;> (try simp only [decide_eq_true_eq, decide_eq_false_iff_not, Bool.or_eq_true, Bool.and_eq_true, Bool.or_eq_false_iff, Bool.and_eq_false_imp, Bool.not_eq_true', Bool.not_eq_false', beq_iff_eq, beq_eq_false_iff_ne, bne_iff_ne, bne_eq_false_iff_eq, ne_eq, Bool.not_eq_eq_eq_not, Bool.not_true, Bool.not_false] at hZ) <;> (try (first | rw [(hZ : _ = false)] | rw [(hZ : _ = true)])) <;> skip)
    )
  all_goals (first | rfl | (congr 3; rw [Bool.eq_iff_iff]; (try simp only [bef, decide_eq_true_eq, Bool.and_eq_true, Bool.or_eq_true, Bool.not_eq_true', Bool.not_eq_false', decide_eq_false_iff_not, beq_iff_eq, bne_iff_ne, ne_eq, Bool.false_eq_true, Bool.true_eq_false, iff_true, true_iff, iff_false, false_iff]); first | done | omega | grind))
theorem rbefore_v (n l : Int) : VCalls Try.prog 71 [.int .i64 n, .int .i64 l] [] (Ret (.bool (bef n l))) := by
  refine vcalls_drop (fn := Try.f71) Try.func71 rfl (by kernel_rfl) (by simp [Try.f71]) ?_
  simp (config := { maxSteps := 2000000 }) (implicitDefEqProofs := false) (disch := first | omega | assumption | (simp only []; done) | fail) only [go_sem, Nat.reduceAdd, Nat.reduceBEq, Int.reduceAdd, Int.reduceBEq, Try.f71]
  skip
  repeat' (first
    | (refine vrunG_split (fun hZ => ?_) (fun hZ => ?_) <;> (try rw [hZ]) <;> (try simp only [decide_eq_true_eq, decide_eq_false_iff_not, Bool.or_eq_true, Bool.and_eq_true, Bool.or_eq_false_iff, Bool.and_eq_false_imp, Bool.not_eq_true', Bool.not_eq_false', beq_iff_eq, beq_eq_false_iff_ne, bne_iff_ne, bne_eq_false_iff_eq, ne_eq, Bool.not_eq_eq_eq_not, Bool.not_true, Bool.not_false] at hZ) <;> (try (first | rw [(hZ : _ = false)] | rw [(hZ : _ = true)])) <;> (try simp (config := { maxSteps := 2000000 }) (implicitDefEqProofs := false) (disch := first | omega | assumption | (simp only []; done) | fail) only [go_sem, Nat.reduceLT, Nat.reduceBEq, Int.reduceLT, Int.reduceBEq]))
    | (refine vbr_split (fun hZ => ?_) (fun hZ => ?_) <;> (try rw [hZ]) <;> (try simp only [decide_eq_true_eq, decide_eq_false_iff_not, Bool.or_eq_true, Bool.and_eq_true, Bool.or_eq_false_iff, Bool.and_eq_false_imp, Bool.not_eq_true', Bool.not_eq_false', beq_iff_eq, beq_eq_false_iff_ne, bne_iff_ne, bne_eq_false_iff_eq, ne_eq, Bool.not_eq_eq_eq_not, Bool.not_true, Bool.not_false] at hZ) <;> (try (first | rw [(hZ : _ = false)] | rw [(hZ : _ = true)])) <;> skip)
    | (refine vdrG_split (fun hZ => ?_) (fun hZ => ?_) <;> (try rw [hZ]) <;> (try simp only [decide_eq_true_eq, decide_eq_false_iff_not, Bool.or_eq_true, Bool.and_eq_true, Bool.or_eq_false_iff, Bool.and_eq_false_imp, Bool.not_eq_true', Bool.not_eq_false', beq_iff_eq, beq_eq_false_iff_ne, bne_iff_ne, bne_eq_false_iff_eq, ne_eq, Bool.not_eq_eq_eq_not, Bool.not_true, Bool.not_false] at hZ) <;> (try (first | rw [(hZ : _ = false)] | rw [(hZ : _ = true)])) <;> skip)
    )
  all_goals (first | rfl | (congr 3; rw [Bool.eq_iff_iff]; (try simp only [bef, decide_eq_true_eq, Bool.and_eq_true, Bool.or_eq_true, Bool.not_eq_true', Bool.not_eq_false', decide_eq_false_iff_not, beq_iff_eq, bne_iff_ne, ne_eq, Bool.false_eq_true, Bool.true_eq_false, iff_true, true_iff, iff_false, false_iff]); first | done | omega | grind))
theorem paged_v (n : Int) : VCalls Try.prog 90 [.int .i64 n] [] (Ret (.bool (decide (0 ≤ n) && decide (n < 64)))) := by
  refine vcalls_drop (fn := Try.f90) Try.func90 rfl (by kernel_rfl) (by simp [Try.f90]) ?_
  simp (config := { maxSteps := 2000000 }) (implicitDefEqProofs := false) (disch := first | omega | assumption | (simp only []; done) | fail) only [go_sem, Nat.reduceBEq, Int.reduceBEq, Try.f90]
  skip
  repeat' (first
    | (refine vrunG_split (fun hZ => ?_) (fun hZ => ?_) <;> (try rw [hZ]) <;> (try simp only [decide_eq_true_eq, decide_eq_false_iff_not, Bool.or_eq_true, Bool.and_eq_true, Bool.or_eq_false_iff, Bool.and_eq_false_imp, Bool.not_eq_true', Bool.not_eq_false', beq_iff_eq, beq_eq_false_iff_ne, bne_iff_ne, bne_eq_false_iff_eq, ne_eq, Bool.not_eq_eq_eq_not, Bool.not_true, Bool.not_false] at hZ) <;> (try (first | rw [(hZ : _ = false)] | rw [(hZ : _ = true)])) <;> (try simp (config := { maxSteps := 2000000 }) (implicitDefEqProofs := false) (disch := first | omega | assumption | (simp only []; done) | fail) only [go_sem, Nat.reduceLT, Nat.reduceBEq, Int.reduceLT, Int.reduceBEq]))
    | (refine vbr_split (fun hZ => ?_) (fun hZ => ?_) <;> (try rw [hZ]) <;> (try simp only [decide_eq_true_eq, decide_eq_false_iff_not, Bool.or_eq_true, Bool.and_eq_true, Bool.or_eq_false_iff, Bool.and_eq_false_imp, Bool.not_eq_true', Bool.not_eq_false', beq_iff_eq, beq_eq_false_iff_ne, bne_iff_ne, bne_eq_false_iff_eq, ne_eq, Bool.not_eq_eq_eq_not, Bool.not_true, Bool.not_false] at hZ) <;> (try (first | rw [(hZ : _ = false)] | rw [(hZ : _ = true)])) <;> skip)
    | (refine vdrG_split (fun hZ => ?_) (fun hZ => ?_) <;> (try rw [hZ]) <;> (try simp only [decide_eq_true_eq, decide_eq_false_iff_not, Bool.or_eq_true, Bool.and_eq_true, Bool.or_eq_false_iff, Bool.and_eq_false_imp, Bool.not_eq_true', Bool.not_eq_false', beq_iff_eq, beq_eq_false_iff_ne, bne_iff_ne, bne_eq_false_iff_eq, ne_eq, Bool.not_eq_eq_eq_not, Bool.not_true, Bool.not_false] at hZ) <;> (try (first | rw [(hZ : _ = false)] | rw [(hZ : _ = true)])) <;> skip)
    )
  all_goals (first | rfl | (congr 3; rw [Bool.eq_iff_iff]; (try simp only [decide_eq_true_eq, Bool.and_eq_true, Bool.or_eq_true, Bool.not_eq_true', Bool.not_eq_false', decide_eq_false_iff_not, beq_iff_eq, bne_iff_ne, ne_eq, Bool.false_eq_true, Bool.true_eq_false, iff_true, true_iff, iff_false, false_iff]); first | done | omega | grind))
theorem anyref_v (x : E) : VCalls Try.prog 81 [.agg x.d] [] (Ret (.bool true)) := by
  refine vcalls_drop (fn := Try.f81) Try.func81 rfl (by kernel_rfl) (by simp [Try.f81]) ?_
  simp (config := { maxSteps := 2000000 }) (implicitDefEqProofs := false) (disch := first | omega | assumption | (simp only []; done) | fail) only [go_sem, ↓reduceIte, Nat.reduceLT, Int.reduceLT, Try.f81, E.d]
theorem undoref_v (x : E) : VCalls Try.prog 84 [.agg x.d] [] (Ret (.bool (decide (1 ≤ x.ref) && decide (x.ref ≤ x.ptx)))) := by
  refine vcalls_drop (fn := Try.f84) Try.func84 rfl (by kernel_rfl) (by simp [Try.f84]) ?_
  simp (config := { maxSteps := 2000000 }) (implicitDefEqProofs := false) (disch := first | omega | assumption | (simp only []; done) | fail) only [go_sem, ↓reduceIte, reduceCtorEq, Nat.reduceBEq, Int.reduceBEq, Try.f84, E.d]
  skip
  repeat' (first
    | (refine vrunG_split (fun hZ => ?_) (fun hZ => ?_) <;> (try rw [hZ]) <;> (try simp only [decide_eq_true_eq, decide_eq_false_iff_not, Bool.or_eq_true, Bool.and_eq_true, Bool.or_eq_false_iff, Bool.and_eq_false_imp, Bool.not_eq_true', Bool.not_eq_false', beq_iff_eq, beq_eq_false_iff_ne, bne_iff_ne, bne_eq_false_iff_eq, ne_eq, Bool.not_eq_eq_eq_not, Bool.not_true, Bool.not_false] at hZ) <;> (try (first | rw [(hZ : _ = false)] | rw [(hZ : _ = true)])) <;> (try simp (config := { maxSteps := 2000000 }) (implicitDefEqProofs := false) (disch := first | omega | assumption | (simp only []; done) | fail) only [go_sem, ↓reduceIte, reduceCtorEq, Nat.reduceLT, Nat.reduceBEq, Int.reduceLT, Int.reduceBEq]))
    | (refine vbr_split (fun hZ => ?_) (fun hZ => ?_) <;> (try rw [hZ]) <;> (try simp only [decide_eq_true_eq, decide_eq_false_iff_not, Bool.or_eq_true, Bool.and_eq_true, Bool.or_eq_false_iff, Bool.and_eq_false_imp, Bool.not_eq_true', Bool.not_eq_false', beq_iff_eq, beq_eq_false_iff_ne, bne_iff_ne, bne_eq_false_iff_eq, ne_eq, Bool.not_eq_eq_eq_not, Bool.not_true, Bool.not_false] at hZ) <;> (try (first | rw [(hZ : _ = false)] | rw [(hZ : _ = true)])) <;> skip)
    | (refine vdrG_split (fun hZ => ?_) (fun hZ => ?_) <;> (try rw [hZ]) <;> (try simp only [decide_eq_true_eq, decide_eq_false_iff_not, Bool.or_eq_true, Bool.and_eq_true, Bool.or_eq_false_iff, Bool.and_eq_false_imp, Bool.not_eq_true', Bool.not_eq_false', beq_iff_eq, beq_eq_false_iff_ne, bne_iff_ne, bne_eq_false_iff_eq, ne_eq, Bool.not_eq_eq_eq_not, Bool.not_true, Bool.not_false] at hZ) <;> (try (first | rw [(hZ : _ = false)] | rw [(hZ : _ = true)])) <;> skip)
    )
  all_goals (first | rfl | (congr 3; rw [Bool.eq_iff_iff]; (try simp only [decide_eq_true_eq, Bool.and_eq_true, Bool.or_eq_true, Bool.not_eq_true', Bool.not_eq_false', decide_eq_false_iff_not, beq_iff_eq, bne_iff_ne, ne_eq, Bool.false_eq_true, Bool.true_eq_false, iff_true, true_iff, iff_false, false_iff]); first | done | omega | grind))
/-- The change of an index. -/
def Ch.ix (x : Ch) : Bool := x.sl == 0 && x.b.no && x.a.no && decide (0 ≤ x.pg) && decide (x.pg < 64)
theorem index_v (x : Ch) : VCalls Try.prog 85 [.agg x.d] [] (Ret (.bool x.ix)) := by
  refine vcalls_drop (fn := Try.f85) Try.func85 rfl (by kernel_rfl) (by simp [Try.f85]) ?_
  simp (config := { maxSteps := 2000000 }) (implicitDefEqProofs := false) (disch := first | omega | assumption | (simp only []; done) | fail) only [go_sem, V.splice, ↓reduceIte, reduceCtorEq, Nat.reduceAdd, Nat.reduceLeDiff, Nat.reduceBEq, Int.reduceAdd, Int.reduceBEq, Try.f85, Ch.d, allEq, leafEq]
  skip
  repeat' (first
    | (refine vrunG_split (fun hZ => ?_) (fun hZ => ?_) <;> (try rw [hZ]) <;> (try simp only [decide_eq_true_eq, decide_eq_false_iff_not, Bool.or_eq_true, Bool.and_eq_true, Bool.or_eq_false_iff, Bool.and_eq_false_imp, Bool.not_eq_true', Bool.not_eq_false', beq_iff_eq, beq_eq_false_iff_ne, bne_iff_ne, bne_eq_false_iff_eq, ne_eq, Bool.not_eq_eq_eq_not, Bool.not_true, Bool.not_false] at hZ) <;> (try (first | rw [(hZ : _ = false)] | rw [(hZ : _ = true)])) <;> (try simp (config := { maxSteps := 2000000 }) (implicitDefEqProofs := false) (disch := first | omega | assumption | (simp only []; done) | fail) only [go_sem, ↓reduceIte, reduceCtorEq, Nat.reduceLT, Nat.reduceBEq, Int.reduceLT, Int.reduceBEq]))
    | (refine vbr_split (fun hZ => ?_) (fun hZ => ?_) <;> (try rw [hZ]) <;> (try simp only [decide_eq_true_eq, decide_eq_false_iff_not, Bool.or_eq_true, Bool.and_eq_true, Bool.or_eq_false_iff, Bool.and_eq_false_imp, Bool.not_eq_true', Bool.not_eq_false', beq_iff_eq, beq_eq_false_iff_ne, bne_iff_ne, bne_eq_false_iff_eq, ne_eq, Bool.not_eq_eq_eq_not, Bool.not_true, Bool.not_false] at hZ) <;> (try (first | rw [(hZ : _ = false)] | rw [(hZ : _ = true)])) <;> skip)
    | (refine vdrG_split (fun hZ => ?_) (fun hZ => ?_) <;> (try rw [hZ]) <;> (try simp only [decide_eq_true_eq, decide_eq_false_iff_not, Bool.or_eq_true, Bool.and_eq_true, Bool.or_eq_false_iff, Bool.and_eq_false_imp, Bool.not_eq_true', Bool.not_eq_false', beq_iff_eq, beq_eq_false_iff_ne, bne_iff_ne, bne_eq_false_iff_eq, ne_eq, Bool.not_eq_eq_eq_not, Bool.not_true, Bool.not_false] at hZ) <;> (try (first | rw [(hZ : _ = false)] | rw [(hZ : _ = true)])) <;> skip)
    )
  all_goals (first | rfl | (congr 3; rw [Bool.eq_iff_iff]; (try simp only [Ch.ix, Ce.no, decide_eq_true_eq, Bool.and_eq_true, Bool.or_eq_true, Bool.not_eq_true', Bool.not_eq_false', decide_eq_false_iff_not, beq_iff_eq, bne_iff_ne, ne_eq, Bool.false_eq_true, Bool.true_eq_false, iff_true, true_iff, iff_false, false_iff]); first | done | omega | grind))
theorem chok_v (x : Ch) : VCalls Try.prog 83 [.agg x.d] [] (Ret (.bool x.okB)) := by
  refine vcalls_drop (fn := Try.f83) Try.func83 rfl (by kernel_rfl) (by simp [Try.f83]) ?_
  simp (config := { maxSteps := 2000000 }) (implicitDefEqProofs := false) (disch := first | omega | assumption | (simp only []; done) | fail) only [go_sem, ↓reduceIte, reduceCtorEq, Nat.reduceBEq, Int.reduceBEq, Try.f83, Ch.d]
  skip
  repeat' (first
    | (refine vrunG_split (fun hZ => ?_) (fun hZ => ?_) <;> (try rw [hZ]) <;> (try simp only [decide_eq_true_eq, decide_eq_false_iff_not, Bool.or_eq_true, Bool.and_eq_true, Bool.or_eq_false_iff, Bool.and_eq_false_imp, Bool.not_eq_true', Bool.not_eq_false', beq_iff_eq, beq_eq_false_iff_ne, bne_iff_ne, bne_eq_false_iff_eq, ne_eq, Bool.not_eq_eq_eq_not, Bool.not_true, Bool.not_false] at hZ) <;> (try (first | rw [(hZ : _ = false)] | rw [(hZ : _ = true)])) <;> (try simp (config := { maxSteps := 2000000 }) (implicitDefEqProofs := false) (disch := first | omega | assumption | (simp only []; done) | fail) only [go_sem, ↓reduceIte, reduceCtorEq, Nat.reduceAdd, Nat.reduceLT, Nat.reduceLeDiff, Nat.reduceBEq, Int.reduceLT, Int.reduceAdd, Int.reduceBEq]))
    | (refine vbr_split (fun hZ => ?_) (fun hZ => ?_) <;> (try rw [hZ]) <;> (try simp only [decide_eq_true_eq, decide_eq_false_iff_not, Bool.or_eq_true, Bool.and_eq_true, Bool.or_eq_false_iff, Bool.and_eq_false_imp, Bool.not_eq_true', Bool.not_eq_false', beq_iff_eq, beq_eq_false_iff_ne, bne_iff_ne, bne_eq_false_iff_eq, ne_eq, Bool.not_eq_eq_eq_not, Bool.not_true, Bool.not_false] at hZ) <;> (try (first | rw [(hZ : _ = false)] | rw [(hZ : _ = true)])) <;> skip)
    | (refine vdrG_split (fun hZ => ?_) (fun hZ => ?_) <;> (try rw [hZ]) <;> (try simp only [decide_eq_true_eq, decide_eq_false_iff_not, Bool.or_eq_true, Bool.and_eq_true, Bool.or_eq_false_iff, Bool.and_eq_false_imp, Bool.not_eq_true', Bool.not_eq_false', beq_iff_eq, beq_eq_false_iff_ne, bne_iff_ne, bne_eq_false_iff_eq, ne_eq, Bool.not_eq_eq_eq_not, Bool.not_true, Bool.not_false] at hZ) <;> (try (first | rw [(hZ : _ = false)] | rw [(hZ : _ = true)])) <;> skip)
    | (refine vc_pure (paged_v x.pg) rfl ?_; (try simp (config := { maxSteps := 2000000 }) (implicitDefEqProofs := false) (disch := first | omega | assumption | (simp only []; done) | fail) only [go_sem]))
    | (refine vc_pure (cellok_v x.b) rfl ?_; (try simp (config := { maxSteps := 2000000 }) (implicitDefEqProofs := false) (disch := first | omega | assumption | (simp only []; done) | fail) only [go_sem, Nat.reduceBEq, Int.reduceBEq]))
    | (refine vc_pure (cellok_v x.a) rfl ?_; (try simp (config := { maxSteps := 2000000 }) (implicitDefEqProofs := false) (disch := first | omega | assumption | (simp only []; done) | fail) only [go_sem, Nat.reduceLT, Nat.reduceBEq, Int.reduceLT, Int.reduceBEq]))
    )
  all_goals (first | rfl | (congr 3; rw [Bool.eq_iff_iff]; (try simp only [Ch.okB, decide_eq_true_eq, Bool.and_eq_true, Bool.or_eq_true, Bool.not_eq_true', Bool.not_eq_false', decide_eq_false_iff_not, beq_iff_eq, bne_iff_ne, ne_eq, Bool.false_eq_true, Bool.true_eq_false, iff_true, true_iff, iff_false, false_iff]); first | done | omega | grind))
theorem rchok_v (x : Ch) : VCalls Try.prog 87 [.agg x.d] [] (Ret (.bool x.okB)) := by
  refine vcalls_drop (fn := Try.f87) Try.func87 rfl (by kernel_rfl) (by simp [Try.f87]) ?_
  simp (config := { maxSteps := 2000000 }) (implicitDefEqProofs := false) (disch := first | omega | assumption | (simp only []; done) | fail) only [go_sem, ↓reduceIte, reduceCtorEq, Nat.reduceBEq, Int.reduceBEq, Try.f87, Ch.d]
  skip
  repeat' (first
    | (refine vrunG_split (fun hZ => ?_) (fun hZ => ?_) <;> (try rw [hZ]) <;> (try simp only [decide_eq_true_eq, decide_eq_false_iff_not, Bool.or_eq_true, Bool.and_eq_true, Bool.or_eq_false_iff, Bool.and_eq_false_imp, Bool.not_eq_true', Bool.not_eq_false', beq_iff_eq, beq_eq_false_iff_ne, bne_iff_ne, bne_eq_false_iff_eq, ne_eq, Bool.not_eq_eq_eq_not, Bool.not_true, Bool.not_false] at hZ) <;> (try (first | rw [(hZ : _ = false)] | rw [(hZ : _ = true)])) <;> (try simp (config := { maxSteps := 2000000 }) (implicitDefEqProofs := false) (disch := first | omega | assumption | (simp only []; done) | fail) only [go_sem, ↓reduceIte, reduceCtorEq, Nat.reduceAdd, Nat.reduceLT, Nat.reduceLeDiff, Nat.reduceBEq, Int.reduceLT, Int.reduceAdd, Int.reduceBEq]))
    | (refine vbr_split (fun hZ => ?_) (fun hZ => ?_) <;> (try rw [hZ]) <;> (try simp only [decide_eq_true_eq, decide_eq_false_iff_not, Bool.or_eq_true, Bool.and_eq_true, Bool.or_eq_false_iff, Bool.and_eq_false_imp, Bool.not_eq_true', Bool.not_eq_false', beq_iff_eq, beq_eq_false_iff_ne, bne_iff_ne, bne_eq_false_iff_eq, ne_eq, Bool.not_eq_eq_eq_not, Bool.not_true, Bool.not_false] at hZ) <;> (try (first | rw [(hZ : _ = false)] | rw [(hZ : _ = true)])) <;> skip)
    | (refine vdrG_split (fun hZ => ?_) (fun hZ => ?_) <;> (try rw [hZ]) <;> (try simp only [decide_eq_true_eq, decide_eq_false_iff_not, Bool.or_eq_true, Bool.and_eq_true, Bool.or_eq_false_iff, Bool.and_eq_false_imp, Bool.not_eq_true', Bool.not_eq_false', beq_iff_eq, beq_eq_false_iff_ne, bne_iff_ne, bne_eq_false_iff_eq, ne_eq, Bool.not_eq_eq_eq_not, Bool.not_true, Bool.not_false] at hZ) <;> (try (first | rw [(hZ : _ = false)] | rw [(hZ : _ = true)])) <;> skip)
    | (refine vc_pure (rcellok_v x.b) rfl ?_; (try simp (config := { maxSteps := 2000000 }) (implicitDefEqProofs := false) (disch := first | omega | assumption | (simp only []; done) | fail) only [go_sem, Nat.reduceBEq, Int.reduceBEq]))
    | (refine vc_pure (rcellok_v x.a) rfl ?_; (try simp (config := { maxSteps := 2000000 }) (implicitDefEqProofs := false) (disch := first | omega | assumption | (simp only []; done) | fail) only [go_sem, Nat.reduceLT, Nat.reduceBEq, Int.reduceLT, Int.reduceBEq]))
    )
  all_goals (first | rfl | (congr 3; rw [Bool.eq_iff_iff]; (try simp only [Ch.okB, decide_eq_true_eq, Bool.and_eq_true, Bool.or_eq_true, Bool.not_eq_true', Bool.not_eq_false', decide_eq_false_iff_not, beq_iff_eq, bne_iff_ne, ne_eq, Bool.false_eq_true, Bool.true_eq_false, iff_true, true_iff, iff_false, false_iff]); first | done | omega | grind))
def rl (tx ch pg rf bl : Bool) (f g : Nat) : List DV := [.bool tx, .bool ch, .bool pg, .bool rf, .bool bl, .fn (.func f) [] [], .fn (.func g) [] []]
def rl0 : List DV := [.bool false, .bool false, .bool false, .bool false, .bool false, .pv (.lit .nilFunc), .pv (.lit .nilFunc)]
def rlEnd : List DV := rl true true false false false 81 82
def rlNote : List DV := rl false false false false true 81 82
def rlAll : List DV := rl0 ++ rl true false true false false 81 83 ++ rl true true true true false 84 83 ++ rlEnd ++ rlEnd ++ rlEnd ++ rlNote ++ rl false false false true false 81 85 ++ rlNote
theorem rules_v : VCalls Try.prog 67 [] [] (Ret (.agg rlAll)) := by
  refine vcalls_drop (fn := Try.f67) Try.func67 rfl (by kernel_rfl) (by simp [Try.f67]) ?_
  simp (config := { maxSteps := 2000000 }) (implicitDefEqProofs := false) (disch := first | omega | assumption | (simp only []; done) | fail) only [go_sem, V.splice, ↓reduceIte, Nat.reduceAdd, Nat.reduceLT, Nat.reduceLeDiff, Nat.reduceMul, Nat.reduceBEq, Int.reduceLT, Int.reduceAdd, Int.reduceMul, Int.reduceBEq, Try.f67]
  rfl
end Go.Proofs.Ytkbahhackcnnbaa

namespace Go.Proofs.Ytkbahhackcnnbaa
open Go.V Go
set_option maxRecDepth 100000
set_option linter.unusedSimpArgs false

def txB (n : Int) : Bool := decide (1 ≤ n) && decide (n ≤ 1073741824)
def E.kindB (e : E) : Bool :=
  if e.kind = 1 then txB e.tx && e.ref == 0 && e.blob == [] && e.c.okB
  else if e.kind = 2 then txB e.tx && e.ptx != 0 && e.blob == [] && decide (1 ≤ e.ref) && decide (e.ref ≤ e.ptx) && e.c.okB
  else if e.kind = 3 ∨ e.kind = 4 ∨ e.kind = 5 then txB e.tx && e.ptx != 0 && e.ppg == 0 && e.ref == 0 && e.blob == [] && e.c.no
  else if e.kind = 6 ∨ e.kind = 8 then e.tx == 0 && e.ptx == 0 && e.ppg == 0 && e.ref == 0 && decide (e.blob.length ≤ 8192) && e.c.no
  else if e.kind = 7 then e.tx == 0 && e.ptx == 0 && e.ppg == 0 && e.blob == [] && e.c.ix
  else false
def E.okB (e : E) : Bool := decide (1 ≤ e.lsn) && decide (e.lsn ≤ 1099511627776) && bef e.ptx e.lsn && bef e.ppg e.lsn && bef e.ref e.lsn && e.kindB
theorem kindB_eq (lsn kind tx ptx ppg ref : Int) (c : Ch) (blob : List UInt8) : (⟨lsn, kind, tx, ptx, ppg, ref, c, blob⟩ : E).kindB =
  if kind = 1 then txB tx && ref == 0 && blob == [] && c.okB
  else if kind = 2 then txB tx && ptx != 0 && blob == [] && decide (1 ≤ ref) && decide (ref ≤ ptx) && c.okB
  else if kind = 3 ∨ kind = 4 ∨ kind = 5 then txB tx && ptx != 0 && ppg == 0 && ref == 0 && blob == [] && c.no
  else if kind = 6 ∨ kind = 8 then tx == 0 && ptx == 0 && ppg == 0 && ref == 0 && decide (blob.length ≤ 8192) && c.no
  else if kind = 7 then tx == 0 && ptx == 0 && ppg == 0 && blob == [] && c.ix
  else false := rfl
theorem kindB_no {e : E} (h : e.kind < 1 ∨ 8 < e.kind) : e.kindB = false := by
  unfold E.kindB; rw [if_neg (by omega), if_neg (by omega), if_neg (by omega), if_neg (by omega), if_neg (by omega)]
theorem kind_cases (k : Int) : (k < 1 ∨ 8 < k) ∨ k = 1 ∨ k = 2 ∨ k = 3 ∨ k = 4 ∨ k = 5 ∨ k = 6 ∨ k = 7 ∨ k = 8 := by omega

set_option maxHeartbeats 4000000 in
theorem valid_v (e : E) : VCalls Try.prog 36 [.agg e.d] [] (Ret (.bool e.okB)) := by
  refine vcalls_drop (fn := Try.f36) Try.func36 rfl (by kernel_rfl) (by simp [Try.f36]) ?_
  obtain ⟨lsn, kind, tx, ptx, ppg, ref, c, blob⟩ := e
  have r1 := before_v ptx ⟨lsn, kind, tx, ptx, ppg, ref, c, blob⟩
  have r2 := before_v ppg ⟨lsn, kind, tx, ptx, ppg, ref, c, blob⟩
  have r3 := before_v ref ⟨lsn, kind, tx, ptx, ppg, ref, c, blob⟩
  have r4 := anyref_v ⟨lsn, kind, tx, ptx, ppg, ref, c, blob⟩
  have r5 := undoref_v ⟨lsn, kind, tx, ptx, ppg, ref, c, blob⟩
  have q1 := none_v c
  have q2 := chok_v c
  have q3 := index_v c
  have e1 : (⟨lsn, kind, tx, ptx, ppg, ref, c, blob⟩ : E).okB = (decide (1 ≤ lsn) && decide (lsn ≤ 1099511627776) && bef ptx lsn && bef ppg lsn && bef ref lsn && (⟨lsn, kind, tx, ptx, ppg, ref, c, blob⟩ : E).kindB) := rfl
  dsimp only [E.d] at *
  generalize bef ptx lsn = B1 at *
  generalize bef ppg lsn = B2 at *
  generalize bef ref lsn = B3 at *
  have e2 := kindB_eq lsn kind tx ptx ppg ref c blob
  dsimp only [Ch.d] at q1 q2 q3
  generalize c.no = N at *
  generalize c.okB = K at *
  generalize c.ix = X at *
  have e3 := @kindB_no ⟨lsn, kind, tx, ptx, ppg, ref, c, blob⟩
  dsimp only at e3
  generalize (⟨lsn, kind, tx, ptx, ppg, ref, c, blob⟩ : E).kindB = Q at *
  generalize (⟨lsn, kind, tx, ptx, ppg, ref, c, blob⟩ : E).okB = R at *
  simp (config := { maxSteps := 2000000 }) (implicitDefEqProofs := false) (disch := first | omega | assumption | (simp only []; done) | fail) only [go_sem, ↓reduceIte, reduceCtorEq, Nat.reduceBEq, Int.reduceBEq, Try.f36]
  skip
  repeat' (first
    | (refine vrunG_split (fun hZ => ?_) (fun hZ => ?_) <;> (try rw [hZ]) <;> (try simp only [decide_eq_true_eq, decide_eq_false_iff_not, Bool.or_eq_true, Bool.and_eq_true, Bool.or_eq_false_iff, Bool.and_eq_false_imp, Bool.not_eq_true', Bool.not_eq_false', beq_iff_eq, beq_eq_false_iff_ne, bne_iff_ne, bne_eq_false_iff_eq, ne_eq, Bool.not_eq_eq_eq_not, Bool.not_true, Bool.not_false] at hZ) <;> (try (first | rw [(hZ : _ = false)] | rw [(hZ : _ = true)])) <;> (try simp (config := { maxSteps := 2000000 }) (implicitDefEqProofs := false) (disch := first | omega | assumption | (simp only []; done) | fail) only [go_sem, ↓reduceIte, reduceCtorEq, Nat.reduceAdd, Nat.reduceBEq, Int.reduceAdd, Int.reduceBEq]))
    | (refine vbr_split (fun hZ => ?_) (fun hZ => ?_) <;> (try rw [hZ]) <;> (try simp only [decide_eq_true_eq, decide_eq_false_iff_not, Bool.or_eq_true, Bool.and_eq_true, Bool.or_eq_false_iff, Bool.and_eq_false_imp, Bool.not_eq_true', Bool.not_eq_false', beq_iff_eq, beq_eq_false_iff_ne, bne_iff_ne, bne_eq_false_iff_eq, ne_eq, Bool.not_eq_eq_eq_not, Bool.not_true, Bool.not_false] at hZ) <;> (try (first | rw [(hZ : _ = false)] | rw [(hZ : _ = true)])) <;> (try simp (config := { maxSteps := 2000000 }) (implicitDefEqProofs := false) (disch := first | omega | assumption | (simp only []; done) | fail) only [go_sem]))
    | (refine vdrG_split (fun hZ => ?_) (fun hZ => ?_) <;> (try rw [hZ]) <;> (try simp only [decide_eq_true_eq, decide_eq_false_iff_not, Bool.or_eq_true, Bool.and_eq_true, Bool.or_eq_false_iff, Bool.and_eq_false_imp, Bool.not_eq_true', Bool.not_eq_false', beq_iff_eq, beq_eq_false_iff_ne, bne_iff_ne, bne_eq_false_iff_eq, ne_eq, Bool.not_eq_eq_eq_not, Bool.not_true, Bool.not_false] at hZ) <;> (try (first | rw [(hZ : _ = false)] | rw [(hZ : _ = true)])) <;> skip)
    | (refine vc_pure (r1) rfl ?_; (try simp (config := { maxSteps := 2000000 }) (implicitDefEqProofs := false) (disch := first | omega | assumption | (simp only []; done) | fail) only [go_sem, Nat.reduceBEq, Int.reduceBEq]))
    | (refine vc_pure (r2) rfl ?_; (try simp (config := { maxSteps := 2000000 }) (implicitDefEqProofs := false) (disch := first | omega | assumption | (simp only []; done) | fail) only [go_sem, Nat.reduceBEq, Int.reduceBEq]))
    | (refine vc_pure (r3) rfl ?_; (try simp (config := { maxSteps := 2000000 }) (implicitDefEqProofs := false) (disch := first | omega | assumption | (simp only []; done) | fail) only [go_sem, Nat.reduceBEq, Int.reduceBEq]))
    | (refine vspine (id := 3) [1, 2] [⟨[4], [], 0, [1, 2], [3]⟩, ⟨[4], [4], 5, [], []⟩] (by kernel_rfl) (by kernel_rfl) ?_; (try simp (config := { maxSteps := 2000000 }) (implicitDefEqProofs := false) (disch := first | omega | assumption | (simp only []; done) | fail) only [go_sem, ↓reduceIte, reduceCtorEq, Nat.reduceAdd, Nat.reduceBEq, Int.reduceAdd, Int.reduceBEq]))
    )
  all_goals first
    | (congr 3; rw [Bool.eq_iff_iff, e1]; simp only [Bool.and_eq_true, decide_eq_true_eq, Bool.false_eq_true, false_iff]; first | omega | (intro h; simp_all; done) | (intro h; rw [e3 (by omega)] at h; simp at h; done))
    | skip
  all_goals
    have hT : R = Q := by rw [e1]; simp_all
    rcases kind_cases kind with hk | rfl | rfl | rfl | rfl | rfl | rfl | rfl | rfl
    · omega
  all_goals
    skip
    repeat' (first
      | (refine vrunG_split (fun hZ => ?_) (fun hZ => ?_) <;> (try rw [hZ]) <;> (try simp only [decide_eq_true_eq, decide_eq_false_iff_not, Bool.or_eq_true, Bool.and_eq_true, Bool.or_eq_false_iff, Bool.and_eq_false_imp, Bool.not_eq_true', Bool.not_eq_false', beq_iff_eq, beq_eq_false_iff_ne, bne_iff_ne, bne_eq_false_iff_eq, ne_eq, Bool.not_eq_eq_eq_not, Bool.not_true, Bool.not_false] at hZ) <;> (try (first | rw [(hZ : _ = false)] | rw [(hZ : _ = true)])) <;> (try simp (config := { maxSteps := 2000000 }) (implicitDefEqProofs := false) (disch := first | omega | assumption | (simp only []; done) | fail) only [go_sem, ↓reduceIte, reduceCtorEq, Nat.reduceAdd, Nat.reduceLT, Nat.reduceLeDiff, Nat.reduceBEq, Int.reduceLT, Int.reduceAdd, Int.reduceBEq]))
      | (refine vbr_split (fun hZ => ?_) (fun hZ => ?_) <;> (try rw [hZ]) <;> (try simp only [decide_eq_true_eq, decide_eq_false_iff_not, Bool.or_eq_true, Bool.and_eq_true, Bool.or_eq_false_iff, Bool.and_eq_false_imp, Bool.not_eq_true', Bool.not_eq_false', beq_iff_eq, beq_eq_false_iff_ne, bne_iff_ne, bne_eq_false_iff_eq, ne_eq, Bool.not_eq_eq_eq_not, Bool.not_true, Bool.not_false] at hZ) <;> (try (first | rw [(hZ : _ = false)] | rw [(hZ : _ = true)])) <;> (try simp (config := { maxSteps := 2000000 }) (implicitDefEqProofs := false) (disch := first | omega | assumption | (simp only []; done) | fail) only [go_sem, ↓reduceIte, reduceCtorEq, Nat.reduceBEq, Int.reduceBEq]))
      | (refine vdrG_split (fun hZ => ?_) (fun hZ => ?_) <;> (try rw [hZ]) <;> (try simp only [decide_eq_true_eq, decide_eq_false_iff_not, Bool.or_eq_true, Bool.and_eq_true, Bool.or_eq_false_iff, Bool.and_eq_false_imp, Bool.not_eq_true', Bool.not_eq_false', beq_iff_eq, beq_eq_false_iff_ne, bne_iff_ne, bne_eq_false_iff_eq, ne_eq, Bool.not_eq_eq_eq_not, Bool.not_true, Bool.not_false] at hZ) <;> (try (first | rw [(hZ : _ = false)] | rw [(hZ : _ = true)])) <;> skip)
      | (refine vc_pure (rules_v) rfl ?_; (try simp (config := { maxSteps := 2000000 }) (implicitDefEqProofs := false) (disch := first | omega | assumption | (simp only []; done) | fail) only [go_sem, V.splice, ↓reduceIte, reduceCtorEq, Nat.reduceAdd, Nat.reduceLeDiff, Nat.reduceMul, Nat.reduceBEq, Int.reduceToNat, Int.reduceAdd, Int.reduceMul, Int.reduceBEq, rlAll, rl0, rl, rlEnd, rlNote]))
      | (refine vc_pure (r4) rfl ?_; (try simp (config := { maxSteps := 2000000 }) (implicitDefEqProofs := false) (disch := first | omega | assumption | (simp only []; done) | fail) only [go_sem, ↓reduceIte, reduceCtorEq, Nat.reduceAdd, Nat.reduceLeDiff, Nat.reduceBEq, Int.reduceAdd, Int.reduceBEq]))
      | (refine vc_pure (r5) rfl ?_; (try simp (config := { maxSteps := 2000000 }) (implicitDefEqProofs := false) (disch := first | omega | assumption | (simp only []; done) | fail) only [go_sem, Nat.reduceBEq, Int.reduceBEq]))
      | (refine vc_pure (q1) rfl ?_; (try simp (config := { maxSteps := 2000000 }) (implicitDefEqProofs := false) (disch := first | omega | assumption | (simp only []; done) | fail) only [go_sem, Nat.reduceLT, Nat.reduceBEq, Int.reduceLT, Int.reduceBEq]))
      | (refine vc_pure (q2) rfl ?_; (try simp (config := { maxSteps := 2000000 }) (implicitDefEqProofs := false) (disch := first | omega | assumption | (simp only []; done) | fail) only [go_sem, Nat.reduceLT, Nat.reduceBEq, Int.reduceLT, Int.reduceBEq]))
      | (refine vc_pure (q3) rfl ?_; (try simp (config := { maxSteps := 2000000 }) (implicitDefEqProofs := false) (disch := first | omega | assumption | (simp only []; done) | fail) only [go_sem, Nat.reduceLT, Nat.reduceBEq, Int.reduceLT, Int.reduceBEq]))
      )
  all_goals (try (congr 3; rw [hT, Bool.eq_iff_iff, e2]; clear hT e1 e2 e3 r1 r2 r3 r4 r5 q1 q2 q3; simp [txB]; first | omega | grind))
  all_goals skip
end Go.Proofs.Ytkbahhackcnnbaa

namespace Go.Proofs.Ytkbahhackcnnbaa
open Go.V Go
set_option maxRecDepth 100000
set_option linter.unusedSimpArgs false

theorem len8192 (l : List UInt8) : decide ((l.length : Int) ≤ 8192) = decide (l.length ≤ 8192) := by
  apply decide_eq_decide.2; omega
def E.shp (e : E) : E :=
  if e.kind = 1 then ⟨e.lsn, e.kind, e.tx, e.ptx, e.ppg, 0, e.c, []⟩
  else if e.kind = 2 then ⟨e.lsn, e.kind, e.tx, e.ptx, e.ppg, e.ref, e.c, []⟩
  else if e.kind = 3 ∨ e.kind = 4 ∨ e.kind = 5 then ⟨e.lsn, e.kind, e.tx, e.ptx, 0, 0, Ch0, []⟩
  else if e.kind = 6 ∨ e.kind = 8 then ⟨e.lsn, e.kind, 0, 0, 0, 0, Ch0, e.blob⟩
  else if e.kind = 7 then ⟨e.lsn, e.kind, 0, 0, 0, e.ref, ⟨e.c.pg, 0, Ce0, Ce0⟩, []⟩
  else ⟨e.lsn, e.kind, 0, 0, 0, 0, Ch0, []⟩
def E.shok (e : E) : Bool :=
  if e.kind = 1 then e.c.okB && decide (1 ≤ e.tx) && decide (e.tx ≤ 1073741824)
  else if e.kind = 2 then e.c.okB && decide (0 < e.ptx) && decide (1 ≤ e.ref) && decide (e.ref ≤ e.ptx) && decide (1 ≤ e.tx) && decide (e.tx ≤ 1073741824)
  else if e.kind = 3 ∨ e.kind = 4 ∨ e.kind = 5 then decide (1 ≤ e.tx) && decide (e.tx ≤ 1073741824) && decide (0 < e.ptx)
  else if e.kind = 6 ∨ e.kind = 8 then decide (e.blob.length ≤ 8192)
  else if e.kind = 7 then decide (0 ≤ e.c.pg) && decide (e.c.pg < 64)
  else false
def shD (e : E) : DV := .tup [.agg e.shp.d, .bool e.shok]

theorem shp_eq (lsn kind tx ptx ppg ref : Int) (c : Ch) (blob : List UInt8) : (⟨lsn, kind, tx, ptx, ppg, ref, c, blob⟩ : E).shp =
  if kind = 1 then ⟨lsn, kind, tx, ptx, ppg, 0, c, []⟩
  else if kind = 2 then ⟨lsn, kind, tx, ptx, ppg, ref, c, []⟩
  else if kind = 3 ∨ kind = 4 ∨ kind = 5 then ⟨lsn, kind, tx, ptx, 0, 0, Ch0, []⟩
  else if kind = 6 ∨ kind = 8 then ⟨lsn, kind, 0, 0, 0, 0, Ch0, blob⟩
  else if kind = 7 then ⟨lsn, kind, 0, 0, 0, ref, ⟨c.pg, 0, Ce0, Ce0⟩, []⟩
  else ⟨lsn, kind, 0, 0, 0, 0, Ch0, []⟩ := rfl
theorem shok_eq (lsn kind tx ptx ppg ref : Int) (c : Ch) (blob : List UInt8) : (⟨lsn, kind, tx, ptx, ppg, ref, c, blob⟩ : E).shok =
  if kind = 1 then c.okB && decide (1 ≤ tx) && decide (tx ≤ 1073741824)
  else if kind = 2 then c.okB && decide (0 < ptx) && decide (1 ≤ ref) && decide (ref ≤ ptx) && decide (1 ≤ tx) && decide (tx ≤ 1073741824)
  else if kind = 3 ∨ kind = 4 ∨ kind = 5 then decide (1 ≤ tx) && decide (tx ≤ 1073741824) && decide (0 < ptx)
  else if kind = 6 ∨ kind = 8 then decide (blob.length ≤ 8192)
  else if kind = 7 then decide (0 ≤ c.pg) && decide (c.pg < 64)
  else false := rfl
set_option maxHeartbeats 4000000 in
theorem shape_v (e : E) : VCalls Try.prog 70 [.agg e.d] [] (Ret (shD e)) := by
  refine vcalls_drop (fn := Try.f70) Try.func70 rfl (by kernel_rfl) (by simp [Try.f70]) ?_
  unfold shD
  obtain ⟨lsn, kind, tx, ptx, ppg, ref, c, blob⟩ := e
  have q1 := rchok_v c
  dsimp only [Ch.d] at q1
  rw [shp_eq, shok_eq]
  generalize c.okB = K at *
  rcases kind_cases kind with hk | rfl | rfl | rfl | rfl | rfl | rfl | rfl | rfl
  · rw [if_neg (by omega), if_neg (by omega), if_neg (by omega), if_neg (by omega), if_neg (by omega), if_neg (by omega), if_neg (by omega), if_neg (by omega), if_neg (by omega), if_neg (by omega)]
    have k1 : (kind == 1) = false := by simp; omega
    have k2 : (kind == 2) = false := by simp; omega
    have k3 : (kind == 3) = false := by simp; omega
    have k4 : (kind == 4) = false := by simp; omega
    have k5 : (kind == 5) = false := by simp; omega
    have k6 : (kind == 6) = false := by simp; omega
    have k7 : (kind == 7) = false := by simp; omega
    have k8 : (kind == 8) = false := by simp; omega
    simp (config := { maxSteps := 2000000 }) (implicitDefEqProofs := false) (disch := first | omega | assumption | (simp only []; done) | fail) only [go_sem, V.splice, ↓reduceIte, reduceCtorEq, Nat.reduceAdd, Nat.reduceLT, Nat.reduceLeDiff, Nat.reduceBEq, Int.reduceLT, Int.reduceAdd, Int.reduceBEq, Try.f70, E.d, k1, k2, k3, k4, k5, k6, k7, k8, Ch0, Ce0]
  all_goals
    simp (config := { maxSteps := 2000000 }) (implicitDefEqProofs := false) (disch := first | omega | assumption | (simp only []; done) | fail) only [go_sem, V.splice, ↓reduceIte, reduceCtorEq, Nat.reduceAdd, Nat.reduceLT, Nat.reduceLeDiff, Nat.reduceBEq, Int.reduceLT, Int.reduceAdd, Int.reduceEq, Int.reduceBEq, Try.f70, E.d]
    skip
    repeat' (first
      | (refine vrunG_split (fun hZ => ?_) (fun hZ => ?_) <;> (try rw [hZ]) <;> (try simp only [decide_eq_true_eq, decide_eq_false_iff_not, Bool.or_eq_true, Bool.and_eq_true, Bool.or_eq_false_iff, Bool.and_eq_false_imp, Bool.not_eq_true', Bool.not_eq_false', beq_iff_eq, beq_eq_false_iff_ne, bne_iff_ne, bne_eq_false_iff_eq, ne_eq, Bool.not_eq_eq_eq_not, Bool.not_true, Bool.not_false] at hZ) <;> (try (first | rw [(hZ : _ = false)] | rw [(hZ : _ = true)])) <;> (try simp (config := { maxSteps := 2000000 }) (implicitDefEqProofs := false) (disch := first | omega | assumption | (simp only []; done) | fail) only [go_sem, V.splice, ↓reduceIte, reduceCtorEq, Nat.reduceAdd, Nat.reduceBEq, Int.reduceAdd, Int.reduceBEq]))
      | (refine vbr_split (fun hZ => ?_) (fun hZ => ?_) <;> (try rw [hZ]) <;> (try simp only [decide_eq_true_eq, decide_eq_false_iff_not, Bool.or_eq_true, Bool.and_eq_true, Bool.or_eq_false_iff, Bool.and_eq_false_imp, Bool.not_eq_true', Bool.not_eq_false', beq_iff_eq, beq_eq_false_iff_ne, bne_iff_ne, bne_eq_false_iff_eq, ne_eq, Bool.not_eq_eq_eq_not, Bool.not_true, Bool.not_false] at hZ) <;> (try (first | rw [(hZ : _ = false)] | rw [(hZ : _ = true)])) <;> skip)
      | (refine vdrG_split (fun hZ => ?_) (fun hZ => ?_) <;> (try rw [hZ]) <;> (try simp only [decide_eq_true_eq, decide_eq_false_iff_not, Bool.or_eq_true, Bool.and_eq_true, Bool.or_eq_false_iff, Bool.and_eq_false_imp, Bool.not_eq_true', Bool.not_eq_false', beq_iff_eq, beq_eq_false_iff_ne, bne_iff_ne, bne_eq_false_iff_eq, ne_eq, Bool.not_eq_eq_eq_not, Bool.not_true, Bool.not_false] at hZ) <;> (try (first | rw [(hZ : _ = false)] | rw [(hZ : _ = true)])) <;> skip)
      | (refine vc_pure (q1) rfl ?_; (try simp (config := { maxSteps := 2000000 }) (implicitDefEqProofs := false) (disch := first | omega | assumption | (simp only []; done) | fail) only [go_sem, ↓reduceIte, reduceCtorEq, Nat.reduceAdd, Nat.reduceBEq, Int.reduceAdd, Int.reduceBEq]))
      | (refine vspine (id := 5) [0, 1, 2, 3, 4, 5, 6, 7, 8] [⟨[], [], 9, [2, 3, 4, 5, 6, 7], [10]⟩, ⟨[], [], 11, [4, 5, 6, 7], [12]⟩, ⟨[], [], 13, [6, 7], [14]⟩, ⟨[], [], 15, [], []⟩] (by kernel_rfl) (by kernel_rfl) ?_; (try simp (config := { maxSteps := 2000000 }) (implicitDefEqProofs := false) (disch := first | omega | assumption | (simp only []; done) | fail) only [go_sem, V.splice, ↓reduceIte, reduceCtorEq, Nat.reduceAdd, Nat.reduceLeDiff, Nat.reduceBEq, Int.reduceAdd, Int.reduceBEq]))
      | (refine vspine (id := 10) [0, 1, 2, 3, 4, 5, 6, 7, 8, 9, 10, 11] [⟨[], [], 12, [1, 2, 3, 4, 5, 6, 8, 9, 10, 11], []⟩, ⟨[], [], 13, [], []⟩] (by kernel_rfl) (by kernel_rfl) ?_; (try simp (config := { maxSteps := 2000000 }) (implicitDefEqProofs := false) (disch := first | omega | assumption | (simp only []; done) | fail) only [go_sem, V.splice, ↓reduceIte, Nat.reduceAdd, Nat.reduceBEq, Int.reduceAdd, Int.reduceBEq]))
      | (refine vspine (id := 14) [0, 1, 2, 3, 4] [⟨[], [], 5, [2, 3], [6]⟩, ⟨[], [], 7, [], []⟩] (by kernel_rfl) (by kernel_rfl) ?_; (try simp (config := { maxSteps := 2000000 }) (implicitDefEqProofs := false) (disch := first | omega | assumption | (simp only []; done) | fail) only [go_sem, ↓reduceIte, reduceCtorEq, Nat.reduceAdd, Nat.reduceBEq, Int.reduceAdd, Int.reduceBEq]))
      | (refine vspine (id := 15) [0, 1, 2, 3, 4, 5, 6, 7, 8, 9, 10, 11, 12, 13] [⟨[], [], 14, [1, 2, 3, 4, 5, 6, 7, 8, 10, 11, 12, 13], []⟩, ⟨[], [], 15, [], []⟩] (by kernel_rfl) (by kernel_rfl) ?_; (try simp (config := { maxSteps := 2000000 }) (implicitDefEqProofs := false) (disch := first | omega | assumption | (simp only []; done) | fail) only [go_sem, ↓reduceIte, reduceCtorEq, Nat.reduceAdd, Nat.reduceBEq, Int.reduceAdd, Int.reduceBEq]))
      | (refine vspine (id := 19) [0, 1, 2, 3, 4] [⟨[], [], 5, [1, 2, 3, 4], []⟩, ⟨[], [], 6, [], []⟩] (by kernel_rfl) (by kernel_rfl) ?_; (try simp (config := { maxSteps := 2000000 }) (implicitDefEqProofs := false) (disch := first | omega | assumption | (simp only []; done) | fail) only [go_sem, V.splice, ↓reduceIte, reduceCtorEq, Nat.reduceAdd, Nat.reduceBEq, Int.reduceAdd, Int.reduceBEq]))
      | (refine vspine (id := 21) [0, 1, 2, 3, 4, 5] [⟨[], [], 6, [2, 3, 4], [7, 8]⟩, ⟨[], [], 9, [7], []⟩] (by kernel_rfl) (by kernel_rfl) ?_; (try simp (config := { maxSteps := 2000000 }) (implicitDefEqProofs := false) (disch := first | omega | assumption | (simp only []; done) | fail) only [go_sem, ↓reduceIte, reduceCtorEq, Nat.reduceAdd, Nat.reduceBEq, Int.reduceAdd, Int.reduceBEq]))
      | (refine vspine (id := 22) [0, 1, 2, 3, 4, 5, 6, 7, 8, 9, 10] [⟨[], [], 11, [1, 2, 3, 4, 6, 7, 8, 9, 10], []⟩, ⟨[], [], 12, [], []⟩] (by kernel_rfl) (by kernel_rfl) ?_; (try simp (config := { maxSteps := 2000000 }) (implicitDefEqProofs := false) (disch := first | omega | assumption | (simp only []; done) | fail) only [go_sem, ↓reduceIte, reduceCtorEq, Nat.reduceAdd, Nat.reduceBEq, Int.reduceAdd, Int.reduceBEq]))
      )
  all_goals first | rfl | (simp [Ch0, Ce0, len8192]; done)
def eqE (x y : E) : Bool := x.lsn == y.lsn && (x.kind == y.kind && (x.tx == y.tx && (x.ptx == y.ptx && (x.ppg == y.ppg && (x.ref == y.ref && (x.c.pg == y.c.pg && (x.c.sl == y.c.sl && (x.c.b.set == y.c.b.set && (x.c.b.data == y.c.b.data && (x.c.a.set == y.c.a.set && (x.c.a.data == y.c.a.data && x.blob == y.blob)))))))))))
theorem allEqE (x y : E) : allEq x.d y.d [(0, 1), (1, 1), (2, 1), (3, 1), (4, 1), (5, 1), (6, 1), (7, 1), (8, 0), (9, 2), (10, 0), (11, 2), (12, 2)] = some (eqE x y) := by
  simp [allEq, leafEq, E.d, eqE]
def E.okR (e : E) : Bool := e.shok && eqE e.shp e && decide (1 ≤ e.lsn) && decide (e.lsn ≤ 1099511627776) && bef e.ptx e.lsn && bef e.ppg e.lsn && bef e.ref e.lsn

theorem rvalidR_v (e : E) : VCalls Try.prog 43 [.agg e.d] [] (Ret (.bool e.okR)) := by
  refine vcalls_drop (fn := Try.f43) Try.func43 rfl (by kernel_rfl) (by simp [Try.f43]) ?_
  have hq := allEqE e.shp e
  have hs := shape_v e
  unfold shD at hs
  simp only [E.d] at hq hs
  have b1 := rbefore_v e.ptx e.lsn
  have b2 := rbefore_v e.ppg e.lsn
  have b3 := rbefore_v e.ref e.lsn
  have e1 : e.okR = (e.shok && eqE e.shp e && decide (1 ≤ e.lsn) && decide (e.lsn ≤ 1099511627776) && bef e.ptx e.lsn && bef e.ppg e.lsn && bef e.ref e.lsn) := rfl
  generalize e.okR = R at *
  generalize bef e.ptx e.lsn = B1 at *
  generalize bef e.ppg e.lsn = B2 at *
  generalize bef e.ref e.lsn = B3 at *
  generalize e.shp = s at *
  generalize e.shok = ok at *
  generalize eqE s e = q at *
  simp (config := { maxSteps := 2000000 }) (implicitDefEqProofs := false) (disch := first | omega | assumption | (simp only []; done) | fail) only [go_sem, ↓reduceIte, Nat.reduceAdd, Nat.reduceBEq, Int.reduceAdd, Int.reduceBEq, Try.f43, E.d]
  skip
  repeat' (first
    | (refine vrunG_split (fun hZ => ?_) (fun hZ => ?_) <;> (try rw [hZ]) <;> (try simp only [decide_eq_true_eq, decide_eq_false_iff_not, Bool.or_eq_true, Bool.and_eq_true, Bool.or_eq_false_iff, Bool.and_eq_false_imp, Bool.not_eq_true', Bool.not_eq_false', beq_iff_eq, beq_eq_false_iff_ne, bne_iff_ne, bne_eq_false_iff_eq, ne_eq, Bool.not_eq_eq_eq_not, Bool.not_true, Bool.not_false] at hZ) <;> (try (first | rw [(hZ : _ = false)] | rw [(hZ : _ = true)])) <;> (try simp (config := { maxSteps := 2000000 }) (implicitDefEqProofs := false) (disch := first | omega | assumption | (simp only []; done) | fail) only [go_sem, ↓reduceIte, reduceCtorEq, Nat.reduceAdd, Nat.reduceLT, Nat.reduceBEq, Int.reduceLT, Int.reduceAdd, Int.reduceBEq, hq]))
    | (refine vbr_split (fun hZ => ?_) (fun hZ => ?_) <;> (try rw [hZ]) <;> (try simp only [decide_eq_true_eq, decide_eq_false_iff_not, Bool.or_eq_true, Bool.and_eq_true, Bool.or_eq_false_iff, Bool.and_eq_false_imp, Bool.not_eq_true', Bool.not_eq_false', beq_iff_eq, beq_eq_false_iff_ne, bne_iff_ne, bne_eq_false_iff_eq, ne_eq, Bool.not_eq_eq_eq_not, Bool.not_true, Bool.not_false] at hZ) <;> (try (first | rw [(hZ : _ = false)] | rw [(hZ : _ = true)])) <;> skip)
    | (refine vdrG_split (fun hZ => ?_) (fun hZ => ?_) <;> (try rw [hZ]) <;> (try simp only [decide_eq_true_eq, decide_eq_false_iff_not, Bool.or_eq_true, Bool.and_eq_true, Bool.or_eq_false_iff, Bool.and_eq_false_imp, Bool.not_eq_true', Bool.not_eq_false', beq_iff_eq, beq_eq_false_iff_ne, bne_iff_ne, bne_eq_false_iff_eq, ne_eq, Bool.not_eq_eq_eq_not, Bool.not_true, Bool.not_false] at hZ) <;> (try (first | rw [(hZ : _ = false)] | rw [(hZ : _ = true)])) <;> skip)
    | (refine vc_pure (hs) rfl ?_; (try simp (config := { maxSteps := 2000000 }) (implicitDefEqProofs := false) (disch := first | omega | assumption | (simp only []; done) | fail) only [go_sem, V.splice, ↓reduceIte, Nat.reduceAdd, Nat.reduceBEq, Int.reduceAdd, Int.reduceBEq]))
    | (refine vc_pure (b1) rfl ?_; (try simp (config := { maxSteps := 2000000 }) (implicitDefEqProofs := false) (disch := first | omega | assumption | (simp only []; done) | fail) only [go_sem, Nat.reduceBEq, Int.reduceBEq]))
    | (refine vc_pure (b2) rfl ?_; (try simp (config := { maxSteps := 2000000 }) (implicitDefEqProofs := false) (disch := first | omega | assumption | (simp only []; done) | fail) only [go_sem, Nat.reduceBEq, Int.reduceBEq]))
    | (refine vc_pure (b3) rfl ?_; (try simp (config := { maxSteps := 2000000 }) (implicitDefEqProofs := false) (disch := first | omega | assumption | (simp only []; done) | fail) only [go_sem, Nat.reduceLT, Nat.reduceBEq, Int.reduceLT, Int.reduceBEq]))
    )
  all_goals (congr 3; rw [e1, Bool.eq_iff_iff]; clear e1 b1 b2 b3 hs hq; simp; first | omega | grind)
theorem okR_ok (e : E) : e.okR = e.okB := by
  obtain ⟨lsn, kind, tx, ptx, ppg, ref, ⟨pg, sl, ⟨b1, b2⟩, ⟨a1, a2⟩⟩, blob⟩ := e
  rw [Bool.eq_iff_iff]
  by_cases h : kind < 1 ∨ 8 < kind
  · have e1 : E.shok ⟨lsn, kind, tx, ptx, ppg, ref, ⟨pg, sl, ⟨b1, b2⟩, ⟨a1, a2⟩⟩, blob⟩ = false := by unfold E.shok; rw [if_neg (by dsimp only; omega), if_neg (by dsimp only; omega), if_neg (by dsimp only; omega), if_neg (by dsimp only; omega), if_neg (by dsimp only; omega)]
    have e2 : E.kindB ⟨lsn, kind, tx, ptx, ppg, ref, ⟨pg, sl, ⟨b1, b2⟩, ⟨a1, a2⟩⟩, blob⟩ = false := by unfold E.kindB; rw [if_neg (by dsimp only; omega), if_neg (by dsimp only; omega), if_neg (by dsimp only; omega), if_neg (by dsimp only; omega), if_neg (by dsimp only; omega)]
    simp [E.okR, E.okB, e1, e2]
  · have hk : kind = 1 ∨ kind = 2 ∨ kind = 3 ∨ kind = 4 ∨ kind = 5 ∨ kind = 6 ∨ kind = 7 ∨ kind = 8 := by omega
    rcases hk with hk | hk | hk | hk | hk | hk | hk | hk <;> subst hk
    all_goals
      simp only [E.okR, E.okB, E.shok, E.shp, E.kindB, eqE, bef, txB, Ch.no, Ce.no, Ch.ix, Ch0, Ce0, Bool.and_eq_true, decide_eq_true_eq, beq_iff_eq, bne_iff_ne, Bool.not_eq_true', reduceIte, Int.reduceEq, or_self, or_false, false_or, or_true, true_or]
      grind
theorem rvalid_v (e : E) : VCalls Try.prog 43 [.agg e.d] [] (Ret (.bool e.okB)) := by
  rw [← okR_ok]; exact rvalidR_v e
end Go.Proofs.Ytkbahhackcnnbaa

namespace Go.Proofs.Ytkbahhackcnnbaa
open Go.V Go
set_option maxRecDepth 100000
set_option linter.unusedSimpArgs false

theorem lenT (l : List Tx) : (cells encT l).length = l.length * 6 := cells_len encT l
theorem allT (l : List Tx) (n : Nat) (h : l.length * 6 ≤ n) : (cells encT l).take n = cells encT l := by rw [List.take_of_length_le]; rw [lenT]; exact h
theorem slkT (l : List Tx) (T : TypeId) (a b : Nat) (h : a ≤ b ∧ b ≤ l.length) : vslk (some (none, T, 6)) (fz encT l) a b = some (.pv (.sl (fz encT ((l.take b).drop a)))) := vslk_fz encT l T a b h
theorem srcT (l : List Tx) : (fz encT l = [] ∨ (fz encT l)[0]?.map List.length = some 6) = True := fz_src encT l
theorem frzT {n : Nat} {hp : Heap} {len : Nat} {l : List Tx} (h : l.length = len) : frzC n hp 0 6 len (some (cells encT l)) = some (.sl (fz encT l)) := frzC_cells encT h

theorem wk_T (l : List Tx) : DV.wk.go (cells encT l) = cells encT l := wk_cells encT l fun a p hp => by
  simp [encT] at hp; rcases hp with rfl | rfl | rfl | rfl | rfl | rfl <;> rfl
/-- An answer with a table. -/
def tblD (r : List Tx × Int) : DV := .tup [.pv (.sl (fz encT r.1)), .int .i64 r.2]
def idT (l : List Tx) (a : Int) : Int := idxP l fun t => t.id == a
def posT (l : List Tx) (a : Int) : Nat := lo l fun t => decide (t.id < a)
def insT (l : List Tx) (t : Tx) : List Tx := l.take (posT l t.id) ++ t :: l.drop (posT l t.id)
def beginS (l : List Tx) (a : Int) : List Tx × Int :=
  if tblB l = false then ([], 15) else if a < 1 ∨ 1073741824 < a then ([], 1) else if 0 ≤ idT l a then ([], 25) else if l.length = 64 then ([], 21) else (insT l ⟨a, 1, 0, 0, [], []⟩, 0)
theorem tblB_len {l : List Tx} (h : tblB l = true) : l.length ≤ 64 := by
  simp [tblB] at h; exact h.1
theorem tblB_sorted {l : List Tx} (h : tblB l = true) : (l.map (·.id)).Pairwise (· < ·) := by
  simp only [tblB, Bool.and_eq_true, List.all_eq_true, List.mem_range] at h
  obtain ⟨_, h⟩ := h
  rw [List.pairwise_iff_getElem]
  have step : ∀ i, ∀ h2 : i + 1 < l.length, l[i].id < l[i + 1].id := fun i h2 => by
    have := ((tC_iff l (i + 1)).1 (h (i + 1) h2)).2
    rw [getD_eq l (i + 1) h2, Nat.add_sub_cancel, getD_eq l i (by omega)] at this
    omega
  have all : ∀ d i, ∀ h2 : i + d + 1 < l.length, l[i].id < l[i + d + 1].id := fun d => by
    induction d with
    | zero => exact step
    | succ d ih => intro i h2; exact Int.lt_trans (ih i (by omega)) (step (i + d + 1) h2)
  intro i j hi hj hij
  rw [List.getElem_map, List.getElem_map]
  have := all (j - i - 1) i (by rw [List.length_map] at hj; omega)
  simpa only [show i + (j - i - 1) + 1 = j by omega] using this
set_option maxHeartbeats 2000000 in
theorem begin_v (l : List Tx) (hs : smL l) (a : Int) : VCalls Try.prog 17 [.pv (.sl (fz encT l)), .int .i64 a] [] (Ret (tblD (beginS l a))) := by
  refine VCalls.unwk ?_
  refine vcalls_drop (fn := Try.f17) Try.func17 rfl (by kernel_rfl) (by simp [Try.f17]) ?_
  have hl := hs.1
  have c1 := tvalid_v l hs
  have c2 := find_v l hl a
  have c3 := fun h => place_v l hl (tblB_sorted h) a
  have hp : posT l a ≤ l.length := lo_le _ _
  have c4 := insertT_v l ⟨a, 1, 0, 0, [], []⟩ (posT l a) hp hl
  have eS : beginS l a = if tblB l = false then ([], 15) else if a < 1 ∨ 1073741824 < a then ([], 1) else if 0 ≤ idT l a then ([], 25) else if l.length = 64 then ([], 21) else (l.take (posT l a) ++ ⟨a, 1, 0, 0, [], []⟩ :: l.drop (posT l a), 0) := rfl
  change ∀ h, VCalls _ _ _ _ (Ret (.int .i64 (posT l a))) at c3
  change VCalls _ _ _ _ (Ret (.int .i64 (idT l a))) at c2
  generalize posT l a = p at *
  generalize idT l a = d at *
  rw [eS]
  simp (config := { maxSteps := 2000000 }) (implicitDefEqProofs := false) (disch := first | omega | assumption | (simp only []; done) | fail) only [go_sem, Nat.reduceAdd, Nat.reduceBEq, Int.reduceAdd, Int.reduceBEq, Try.f17]
  skip
  repeat' (first
    | (refine vrunG_split (fun hZ => ?_) (fun hZ => ?_) <;> (try rw [hZ]) <;> (try simp only [decide_eq_true_eq, decide_eq_false_iff_not, Bool.or_eq_true, Bool.and_eq_true, Bool.or_eq_false_iff, Bool.and_eq_false_imp, Bool.not_eq_true', Bool.not_eq_false', beq_iff_eq, beq_eq_false_iff_ne, bne_iff_ne, bne_eq_false_iff_eq, ne_eq, Bool.not_eq_eq_eq_not, Bool.not_true, Bool.not_false] at hZ) <;> (try (first | rw [(hZ : _ = false)] | rw [(hZ : _ = true)])) <;> (try simp (config := { maxSteps := 2000000 }) (implicitDefEqProofs := false) (disch := first | omega | assumption | (simp only []; done) | fail) only [go_sem, Nat.reduceBEq, Int.reduceBEq]))
    | (refine vbr_split (fun hZ => ?_) (fun hZ => ?_) <;> (try rw [hZ]) <;> (try simp only [decide_eq_true_eq, decide_eq_false_iff_not, Bool.or_eq_true, Bool.and_eq_true, Bool.or_eq_false_iff, Bool.and_eq_false_imp, Bool.not_eq_true', Bool.not_eq_false', beq_iff_eq, beq_eq_false_iff_ne, bne_iff_ne, bne_eq_false_iff_eq, ne_eq, Bool.not_eq_eq_eq_not, Bool.not_true, Bool.not_false] at hZ) <;> (try (first | rw [(hZ : _ = false)] | rw [(hZ : _ = true)])) <;> (try simp (config := { maxSteps := 2000000 }) (implicitDefEqProofs := false) (disch := first | omega | assumption | (simp only []; done) | fail) only [go_sem, ↓reduceIte, reduceCtorEq, Nat.reduceBEq, Int.reduceBEq]))
    | (refine vdrG_split (fun hZ => ?_) (fun hZ => ?_) <;> (try rw [hZ]) <;> (try simp only [decide_eq_true_eq, decide_eq_false_iff_not, Bool.or_eq_true, Bool.and_eq_true, Bool.or_eq_false_iff, Bool.and_eq_false_imp, Bool.not_eq_true', Bool.not_eq_false', beq_iff_eq, beq_eq_false_iff_ne, bne_iff_ne, bne_eq_false_iff_eq, ne_eq, Bool.not_eq_eq_eq_not, Bool.not_true, Bool.not_false] at hZ) <;> (try (first | rw [(hZ : _ = false)] | rw [(hZ : _ = true)])) <;> skip)
    | (refine vc_new0 (cloneT_v l hl) rfl (cells_nums _ _ _) ?_; (try simp (config := { maxSteps := 2000000 }) (implicitDefEqProofs := false) (disch := first | omega | assumption | (simp only []; done) | fail) only [go_sem, Nat.reduceBEq, Int.reduceBEq]))
    | (refine vc_pure (c1) rfl ?_; (try simp (config := { maxSteps := 2000000 }) (implicitDefEqProofs := false) (disch := first | omega | assumption | (simp only []; done) | fail) only [go_sem]))
    | (refine vc_pure (c2) rfl ?_; (try simp (config := { maxSteps := 2000000 }) (implicitDefEqProofs := false) (disch := first | omega | assumption | (simp only []; done) | fail) only [go_sem]))
    | (refine vc_pure (c3 (by assumption)) rfl ?_; (try simp (config := { maxSteps := 2000000 }) (implicitDefEqProofs := false) (disch := first | omega | assumption | (simp only []; done) | fail) only [go_sem, V.splice, V.mk, ↓reduceIte, Nat.reduceAdd, Nat.reduceLT, Nat.reduceLeDiff, Nat.reduceBEq, Int.reduceLT, Int.reduceAdd, Int.reduceBEq]))
    )
  all_goals first
    | (repeat (first | rw [if_pos (by first | assumption | omega)] | rw [if_neg (by first | assumption | omega | (rw [show tblB l = true by assumption]; decide))])
       rfl)
    | skip
  refine VCalls.wkH ?_; simp only [hpwk_nil, hpwk_cons, wk_go_nil, wk_go_cons, DV.wk, PV.wk, wk_T]
  refine vc_newP [0, 1] [0, 1] c4 rfl ⟨⟨by simp, cells_nums _ _ _⟩, ⟨by simp, rfl⟩, trivial⟩ (by decide) rfl rfl rfl (cells_nums _ _ _) ?_
  simp (config := { maxSteps := 2000000 }) (implicitDefEqProofs := false) (disch := first | omega | assumption | (simp only []; done) | (simp only [List.length_append, List.length_cons, List.length_take, List.length_drop] <;> omega) | fail) only [go_sem, ↓reduceIte, Nat.reduceAdd, Nat.reduceLT, Nat.reduceBEq, Int.reduceLT, Int.reduceAdd, Int.reduceBEq, frzT]
  repeat (first | rw [if_pos (by first | assumption | omega)] | rw [if_neg (by first | assumption | omega | (rw [show tblB l = true by assumption]; decide))])
  rfl
theorem with_v (l : List Tx) (hl : l.length ≤ 1000000) (t : Tx) (i : Nat) (hi : i < l.length) (h : idT l t.id = i) : VCalls Try.prog 42 [.pv (.sl (fz encT l)), .agg t.d] [] (Ret (.pv (.sl (fz encT (l.set i t))))) := by
  refine vcalls_drop (fn := Try.f42) Try.func42 rfl (by kernel_rfl) (by simp [Try.f42]) ?_
  have c2 := find_v l hl t.id
  change VCalls _ _ _ _ (Ret (.int .i64 (idT l t.id))) at c2
  rw [h] at c2
  have hb : i * 6 + 6 ≤ l.length * 6 := by omega
  have hse : splice (cells encT l) (i * 6) [.pv (.lit (.int .i64 t.id)), .pv (.lit (.int .i64 t.st)), .pv (.lit (.int .i64 t.n)), .pv (.lit (.int .i64 t.b)), .pv (.sl (fz encI t.l)), .pv (.sl (fz encI t.s))] = cells encT (l.set i t) := set_in encT l i t hi
  simp (config := { maxSteps := 2000000 }) (implicitDefEqProofs := false) (disch := first | omega | assumption | (simp only []; done) | fail) only [go_sem, ↓reduceIte, Nat.reduceAdd, Nat.reduceBEq, Int.reduceAdd, Int.reduceBEq, Try.f42, Tx.d]
  skip
  repeat' (first
    | (refine vrunG_split (fun hZ => ?_) (fun hZ => ?_) <;> (try rw [hZ]) <;> (try simp only [decide_eq_true_eq, decide_eq_false_iff_not, Bool.or_eq_true, Bool.and_eq_true, Bool.or_eq_false_iff, Bool.and_eq_false_imp, Bool.not_eq_true', Bool.not_eq_false', beq_iff_eq, beq_eq_false_iff_ne, bne_iff_ne, bne_eq_false_iff_eq, ne_eq, Bool.not_eq_eq_eq_not, Bool.not_true, Bool.not_false] at hZ) <;> (try (first | rw [(hZ : _ = false)] | rw [(hZ : _ = true)])) <;> skip)
    | (refine vbr_split (fun hZ => ?_) (fun hZ => ?_) <;> (try rw [hZ]) <;> (try simp only [decide_eq_true_eq, decide_eq_false_iff_not, Bool.or_eq_true, Bool.and_eq_true, Bool.or_eq_false_iff, Bool.and_eq_false_imp, Bool.not_eq_true', Bool.not_eq_false', beq_iff_eq, beq_eq_false_iff_ne, bne_iff_ne, bne_eq_false_iff_eq, ne_eq, Bool.not_eq_eq_eq_not, Bool.not_true, Bool.not_false] at hZ) <;> (try (first | rw [(hZ : _ = false)] | rw [(hZ : _ = true)])) <;> skip)
    | (refine vdrG_split (fun hZ => ?_) (fun hZ => ?_) <;> (try rw [hZ]) <;> (try simp only [decide_eq_true_eq, decide_eq_false_iff_not, Bool.or_eq_true, Bool.and_eq_true, Bool.or_eq_false_iff, Bool.and_eq_false_imp, Bool.not_eq_true', Bool.not_eq_false', beq_iff_eq, beq_eq_false_iff_ne, bne_iff_ne, bne_eq_false_iff_eq, ne_eq, Bool.not_eq_eq_eq_not, Bool.not_true, Bool.not_false] at hZ) <;> (try (first | rw [(hZ : _ = false)] | rw [(hZ : _ = true)])) <;> skip)
    | (refine vc_new0 (cloneT_v l hl) rfl (cells_nums _ _ _) ?_; (try simp (config := { maxSteps := 2000000 }) (implicitDefEqProofs := false) (disch := first | omega | assumption | (simp only []; done) | fail) only [go_sem]))
    | (refine vc_lendA (c2) ?_ rfl ?_; (focus (simp (config := { maxSteps := 2000000 }) (implicitDefEqProofs := false) (disch := first | omega | assumption) only [go_sem, ↓reduceIte, Nat.reduceLT, Int.reduceLT, frzT]; done)); (try simp (config := { maxSteps := 2000000 }) (implicitDefEqProofs := false) (disch := first | omega | assumption | (simp only []; done) | (simp only [List.length_set] <;> omega) | fail) only [go_sem, ↓reduceIte, Nat.reduceAdd, Nat.reduceLT, Nat.reduceBEq, Int.reduceLT, Int.reduceAdd, Int.reduceBEq, lenT, frzT, hb, hse]))
    | (refine vspine (id := 2) [0, 1, 2, 3, 5] [⟨[], [], 4, [0, 2, 5], [6]⟩, ⟨[], [], 7, [], []⟩] (by kernel_rfl) (by kernel_rfl) ?_; (try simp (config := { maxSteps := 2000000 }) (implicitDefEqProofs := false) (disch := first | omega | assumption | (simp only []; done) | fail) only [go_sem, ↓reduceIte, reduceCtorEq, Nat.reduceAdd, Nat.reduceBEq, Int.reduceAdd, Int.reduceBEq]))
    )
theorem remove1_v (t : Tx) (a : Int) : VCalls Try.prog 54 [.agg t.d, .ip [.lit (.int .i64 a)]] [] (Ret (.bool (t.id == a))) := by
  refine vcalls_drop (fn := Try.f54) Try.func54 rfl (by kernel_rfl) (by simp [Try.f54]) ?_
  simp (config := { maxSteps := 2000000 }) (implicitDefEqProofs := false) (disch := first | omega | assumption | (simp only []; done) | fail) only [go_sem, ↓reduceIte, reduceCtorEq, Nat.reduceAdd, Nat.reduceLT, Nat.reduceBEq, Int.reduceLT, Int.reduceAdd, Int.reduceBEq, Try.f54, Tx.d]
def remS (l : List Tx) (a : Int) : List Tx := keepL l fun t => t.id == a
theorem remove_v (l : List Tx) (hl : l.length ≤ 1000000) (a : Int) : VCalls Try.prog 21 [.pv (.sl (fz encT l)), .int .i64 a] [] (Ret (.pv (.sl (fz encT (remS l a))))) := by
  refine vcalls_drop (fn := Try.f21) Try.func21 rfl (by kernel_rfl) (by simp [Try.f21]) ?_
  simp (config := { maxSteps := 2000000 }) (implicitDefEqProofs := false) (disch := first | omega | assumption | (simp only []; done) | fail) only [go_sem, ↓reduceIte, Nat.reduceAdd, Nat.reduceBEq, Int.reduceAdd, Int.reduceBEq, Try.f21]
  skip
  repeat' (first
    | (refine vrunG_split (fun hZ => ?_) (fun hZ => ?_) <;> (try rw [hZ]) <;> (try simp only [decide_eq_true_eq, decide_eq_false_iff_not, Bool.or_eq_true, Bool.and_eq_true, Bool.or_eq_false_iff, Bool.and_eq_false_imp, Bool.not_eq_true', Bool.not_eq_false', beq_iff_eq, beq_eq_false_iff_ne, bne_iff_ne, bne_eq_false_iff_eq, ne_eq, Bool.not_eq_eq_eq_not, Bool.not_true, Bool.not_false] at hZ) <;> (try (first | rw [(hZ : _ = false)] | rw [(hZ : _ = true)])) <;> skip)
    | (refine vbr_split (fun hZ => ?_) (fun hZ => ?_) <;> (try rw [hZ]) <;> (try simp only [decide_eq_true_eq, decide_eq_false_iff_not, Bool.or_eq_true, Bool.and_eq_true, Bool.or_eq_false_iff, Bool.and_eq_false_imp, Bool.not_eq_true', Bool.not_eq_false', beq_iff_eq, beq_eq_false_iff_ne, bne_iff_ne, bne_eq_false_iff_eq, ne_eq, Bool.not_eq_eq_eq_not, Bool.not_true, Bool.not_false] at hZ) <;> (try (first | rw [(hZ : _ = false)] | rw [(hZ : _ = true)])) <;> skip)
    | (refine vdrG_split (fun hZ => ?_) (fun hZ => ?_) <;> (try rw [hZ]) <;> (try simp only [decide_eq_true_eq, decide_eq_false_iff_not, Bool.or_eq_true, Bool.and_eq_true, Bool.or_eq_false_iff, Bool.and_eq_false_imp, Bool.not_eq_true', Bool.not_eq_false', beq_iff_eq, beq_eq_false_iff_ne, bne_iff_ne, bne_eq_false_iff_eq, ne_eq, Bool.not_eq_eq_eq_not, Bool.not_true, Bool.not_false] at hZ) <;> (try (first | rw [(hZ : _ = false)] | rw [(hZ : _ = true)])) <;> skip)
    | (refine vc_new0 (cloneT_v l hl) rfl (cells_nums _ _ _) ?_; (try simp (config := { maxSteps := 2000000 }) (implicitDefEqProofs := false) (disch := first | omega | assumption | (simp only []; done) | fail) only [go_sem, Nat.reduceLT, Nat.reduceBEq, Int.reduceLT, Int.reduceBEq]))
    )
  refine VCalls.ipK 0 [.lit (.int .i64 a)] rfl ?_; simp (config := { maxSteps := 2000000 }) (implicitDefEqProofs := false) (disch := first | omega | assumption) only [go_sem, ↓reduceIte, DV.ipK, DV.ipK.go]
  refine vc_newP [1] [1] (deleteFT_v l hl 54 [.ip [.lit (.int .i64 a)]] rfl (fun _ => rfl) (fun t => t.id == a) (fun t _ => remove1_v t a)) rfl ⟨⟨by simp, cells_nums _ _ _⟩, trivial⟩ (by decide) rfl rfl rfl (cells_nums _ _ _) ?_
  simp (config := { maxSteps := 2000000 }) (implicitDefEqProofs := false) (disch := first | omega | assumption | (simp only []; done) | fail) only [go_sem, ↓reduceIte, Nat.reduceAdd, Nat.reduceLT, Int.reduceLT, Int.reduceAdd, frzT, remS]
def leftB (t : Tx) (a : Int) : Bool := decide (0 < t.l.length) && decide (a < t.l.getD (t.l.length - 1) 0)
theorem lastI (l : List Int) (h : 0 < l.length) : (fz encI l)[((l.length : Int) - 1).toNat]? = some [.lit (.int .i64 (l.getD (l.length - 1) 0))] := by
  rw [show ((l.length : Int) - 1).toNat = l.length - 1 by omega]; exact fzI_get l (l.length - 1) (by omega)
theorem left_v (t : Tx) (hs : t.sm) (a : Int) : VCalls Try.prog 41 [.agg t.d, .int .i64 a] [] (Ret (.bool (leftB t a))) := by
  refine vcalls_drop (fn := Try.f41) Try.func41 rfl (by kernel_rfl) (by simp [Try.f41]) ?_
  have h0 := hs.1
  have hg := fun h : 0 < t.l.length => lastI t.l h
  simp (config := { maxSteps := 2000000 }) (implicitDefEqProofs := false) (disch := first | omega | assumption | (simp only []; done) | fail) only [go_sem, ↓reduceIte, reduceCtorEq, Nat.reduceAdd, Nat.reduceBEq, Int.reduceAdd, Int.reduceBEq, Try.f41, Tx.d]
  skip
  repeat' (first
    | (refine vrunG_split (fun hZ => ?_) (fun hZ => ?_) <;> (try rw [hZ]) <;> (try simp only [decide_eq_true_eq, decide_eq_false_iff_not, Bool.or_eq_true, Bool.and_eq_true, Bool.or_eq_false_iff, Bool.and_eq_false_imp, Bool.not_eq_true', Bool.not_eq_false', beq_iff_eq, beq_eq_false_iff_ne, bne_iff_ne, bne_eq_false_iff_eq, ne_eq, Bool.not_eq_eq_eq_not, Bool.not_true, Bool.not_false] at hZ) <;> (try (first | rw [(hZ : _ = false)] | rw [(hZ : _ = true)])) <;> (try simp (config := { maxSteps := 2000000 }) (implicitDefEqProofs := false) (disch := first | omega | assumption | (simp only [List.length_cons, List.length_nil, Nat.zero_add]; done) | fail) only [go_sem, ↓reduceIte, reduceCtorEq, Nat.reduceLT, Nat.reduceBEq, Int.reduceLT, Int.reduceBEq, hg]))
    | (refine vbr_split (fun hZ => ?_) (fun hZ => ?_) <;> (try rw [hZ]) <;> (try simp only [decide_eq_true_eq, decide_eq_false_iff_not, Bool.or_eq_true, Bool.and_eq_true, Bool.or_eq_false_iff, Bool.and_eq_false_imp, Bool.not_eq_true', Bool.not_eq_false', beq_iff_eq, beq_eq_false_iff_ne, bne_iff_ne, bne_eq_false_iff_eq, ne_eq, Bool.not_eq_eq_eq_not, Bool.not_true, Bool.not_false] at hZ) <;> (try (first | rw [(hZ : _ = false)] | rw [(hZ : _ = true)])) <;> skip)
    | (refine vdrG_split (fun hZ => ?_) (fun hZ => ?_) <;> (try rw [hZ]) <;> (try simp only [decide_eq_true_eq, decide_eq_false_iff_not, Bool.or_eq_true, Bool.and_eq_true, Bool.or_eq_false_iff, Bool.and_eq_false_imp, Bool.not_eq_true', Bool.not_eq_false', beq_iff_eq, beq_eq_false_iff_ne, bne_iff_ne, bne_eq_false_iff_eq, ne_eq, Bool.not_eq_eq_eq_not, Bool.not_true, Bool.not_false] at hZ) <;> (try (first | rw [(hZ : _ = false)] | rw [(hZ : _ = true)])) <;> skip)
    )
  all_goals (first | rfl | (congr 3; rw [Bool.eq_iff_iff]; (try simp only [leftB, decide_eq_true_eq, Bool.and_eq_true, Bool.or_eq_true, Bool.not_eq_true', Bool.not_eq_false', decide_eq_false_iff_not, beq_iff_eq, bne_iff_ne, ne_eq, Bool.false_eq_true, Bool.true_eq_false, iff_true, true_iff, iff_false, false_iff]); first | done | omega | grind))
end Go.Proofs.Ytkbahhackcnnbaa

namespace Go.Proofs.Ytkbahhackcnnbaa
open Go.V Go
set_option maxRecDepth 100000
set_option linter.unusedSimpArgs false

theorem idT_cases (l : List Tx) (a : Int) : idT l a = -1 ∨ ∃ i, ∃ h : i < l.length, idT l a = i ∧ l[i].id = a := by
  unfold idT idxP
  split
  · rename_i h
    obtain ⟨x, hm, hp⟩ := List.any_eq_true.1 h
    have hlt := List.findIdx_lt_length_of_exists (p := fun t : Tx => t.id == a) ⟨x, hm, hp⟩
    have := List.findIdx_getElem (w := hlt)
    exact .inr ⟨_, hlt, rfl, by simpa using this⟩
  · exact .inl rfl
def activeS (l : List Tx) (a : Int) : Tx × Int :=
  if tblB l = false then (Tx0, 15) else if idT l a < 0 then (Tx0, 16) else if (l.getD (idT l a).toNat Tx0).st ≠ 1 then (Tx0, 15) else (l.getD (idT l a).toNat Tx0, 0)
theorem activeS_ok {l : List Tx} {a : Int} (h : (activeS l a).2 = 0) : tblB l = true ∧ ∃ i, ∃ hi : i < l.length, idT l a = i ∧ l[i].id = a ∧ (activeS l a).1 = l[i] := by
  unfold activeS at h ⊢
  split at h
  · simp at h
  rename_i h1
  split at h
  · simp at h
  rename_i h2
  split at h
  · simp at h
  rename_i h3
  refine ⟨by simpa using h1, ?_⟩
  rcases idT_cases l a with h4 | ⟨i, hi, h4, h5⟩
  · omega
  · rw [if_neg h1, if_neg h2, if_neg h3]
    exact ⟨i, hi, h4, h5, by rw [h4, Int.toNat_natCast, getD_eq l i hi]⟩
def actD (r : Tx × Int) : DV := .tup [.agg r.1.d, .int .i64 r.2]
set_option maxHeartbeats 2000000 in
theorem active_v (l : List Tx) (hs : smL l) (a : Int) : VCalls Try.prog 55 [.pv (.sl (fz encT l)), .int .i64 a] [] (Ret (actD (activeS l a))) := by
  refine VCalls.unwk ?_
  refine vcalls_drop (fn := Try.f55) Try.func55 rfl (by kernel_rfl) (by simp [Try.f55]) ?_
  have c1 := tvalid_v l hs
  have c2 := find_v l hs.1 a
  change VCalls _ _ _ _ (Ret (.int .i64 (idT l a))) at c2
  unfold activeS
  rcases idT_cases l a with h | ⟨i, hi, h, hid⟩
  · rw [h] at c2 ⊢
    simp (config := { maxSteps := 2000000 }) (implicitDefEqProofs := false) (disch := first | omega | assumption | (simp only []; done) | fail) only [go_sem, ↓reduceIte, Nat.reduceAdd, Nat.reduceLT, Nat.reduceBEq, Int.reduceLT, Int.reduceNeg, Int.reduceAdd, Int.reduceBEq, Try.f55]
    skip
    repeat' (first
      | (refine vrunG_split (fun hZ => ?_) (fun hZ => ?_) <;> (try rw [hZ]) <;> (try simp only [decide_eq_true_eq, decide_eq_false_iff_not, Bool.or_eq_true, Bool.and_eq_true, Bool.or_eq_false_iff, Bool.and_eq_false_imp, Bool.not_eq_true', Bool.not_eq_false', beq_iff_eq, beq_eq_false_iff_ne, bne_iff_ne, bne_eq_false_iff_eq, ne_eq, Bool.not_eq_eq_eq_not, Bool.not_true, Bool.not_false] at hZ) <;> (try (first | rw [(hZ : _ = false)] | rw [(hZ : _ = true)])) <;> skip)
      | (refine vbr_split (fun hZ => ?_) (fun hZ => ?_) <;> (try rw [hZ]) <;> (try simp only [decide_eq_true_eq, decide_eq_false_iff_not, Bool.or_eq_true, Bool.and_eq_true, Bool.or_eq_false_iff, Bool.and_eq_false_imp, Bool.not_eq_true', Bool.not_eq_false', beq_iff_eq, beq_eq_false_iff_ne, bne_iff_ne, bne_eq_false_iff_eq, ne_eq, Bool.not_eq_eq_eq_not, Bool.not_true, Bool.not_false] at hZ) <;> (try (first | rw [(hZ : _ = false)] | rw [(hZ : _ = true)])) <;> (try simp (config := { maxSteps := 2000000 }) (implicitDefEqProofs := false) (disch := first | omega | assumption | (simp only []; done) | fail) only [go_sem, V.splice, ↓reduceIte, reduceCtorEq, Nat.reduceAdd, Nat.reduceBEq, Int.reduceAdd, Int.reduceBEq]))
      | (refine vdrG_split (fun hZ => ?_) (fun hZ => ?_) <;> (try rw [hZ]) <;> (try simp only [decide_eq_true_eq, decide_eq_false_iff_not, Bool.or_eq_true, Bool.and_eq_true, Bool.or_eq_false_iff, Bool.and_eq_false_imp, Bool.not_eq_true', Bool.not_eq_false', beq_iff_eq, beq_eq_false_iff_ne, bne_iff_ne, bne_eq_false_iff_eq, ne_eq, Bool.not_eq_eq_eq_not, Bool.not_true, Bool.not_false] at hZ) <;> (try (first | rw [(hZ : _ = false)] | rw [(hZ : _ = true)])) <;> skip)
      | (refine vc_pure (c1) rfl ?_; (try simp (config := { maxSteps := 2000000 }) (implicitDefEqProofs := false) (disch := first | omega | assumption | (simp only []; done) | fail) only [go_sem]))
      | (refine vc_pure (c2) rfl ?_; (try simp (config := { maxSteps := 2000000 }) (implicitDefEqProofs := false) (disch := first | omega | assumption | (simp only []; done) | fail) only [go_sem, V.splice, ↓reduceIte, Nat.reduceAdd, Nat.reduceLT, Nat.reduceBEq, Int.reduceLT, Int.reduceNeg, Int.reduceAdd, Int.reduceBEq]))
      )
    all_goals rfl
  · rw [h] at c2 ⊢
    have hg := fzT_at l i hi
    rw [Int.toNat_natCast, getD_eq l i hi, if_neg (show ¬ (i : Int) < 0 by omega)]
    simp (config := { maxSteps := 2000000 }) (implicitDefEqProofs := false) (disch := first | omega | assumption | (simp only []; done) | fail) only [go_sem, ↓reduceIte, Nat.reduceAdd, Nat.reduceBEq, Int.reduceAdd, Int.reduceBEq, Try.f55]
    skip
    repeat' (first
      | (refine vrunG_split (fun hZ => ?_) (fun hZ => ?_) <;> (try rw [hZ]) <;> (try simp only [decide_eq_true_eq, decide_eq_false_iff_not, Bool.or_eq_true, Bool.and_eq_true, Bool.or_eq_false_iff, Bool.and_eq_false_imp, Bool.not_eq_true', Bool.not_eq_false', beq_iff_eq, beq_eq_false_iff_ne, bne_iff_ne, bne_eq_false_iff_eq, ne_eq, Bool.not_eq_eq_eq_not, Bool.not_true, Bool.not_false] at hZ) <;> (try (first | rw [(hZ : _ = false)] | rw [(hZ : _ = true)])) <;> skip)
      | (refine vbr_split (fun hZ => ?_) (fun hZ => ?_) <;> (try rw [hZ]) <;> (try simp only [decide_eq_true_eq, decide_eq_false_iff_not, Bool.or_eq_true, Bool.and_eq_true, Bool.or_eq_false_iff, Bool.and_eq_false_imp, Bool.not_eq_true', Bool.not_eq_false', beq_iff_eq, beq_eq_false_iff_ne, bne_iff_ne, bne_eq_false_iff_eq, ne_eq, Bool.not_eq_eq_eq_not, Bool.not_true, Bool.not_false] at hZ) <;> (try (first | rw [(hZ : _ = false)] | rw [(hZ : _ = true)])) <;> (try simp (config := { maxSteps := 2000000 }) (implicitDefEqProofs := false) (disch := first | omega | assumption | (simp only [List.length_cons, List.length_nil, Nat.zero_add, Nat.reduceAdd]; done) | fail) only [go_sem, V.splice, ↓reduceIte, reduceCtorEq, Nat.reduceAdd, Nat.reduceLT, Nat.reduceBEq, Int.reduceLT, Int.reduceAdd, Int.reduceBEq, hg]))
      | (refine vdrG_split (fun hZ => ?_) (fun hZ => ?_) <;> (try rw [hZ]) <;> (try simp only [decide_eq_true_eq, decide_eq_false_iff_not, Bool.or_eq_true, Bool.and_eq_true, Bool.or_eq_false_iff, Bool.and_eq_false_imp, Bool.not_eq_true', Bool.not_eq_false', beq_iff_eq, beq_eq_false_iff_ne, bne_iff_ne, bne_eq_false_iff_eq, ne_eq, Bool.not_eq_eq_eq_not, Bool.not_true, Bool.not_false] at hZ) <;> (try (first | rw [(hZ : _ = false)] | rw [(hZ : _ = true)])) <;> skip)
      | (refine vc_pure (c1) rfl ?_; (try simp (config := { maxSteps := 2000000 }) (implicitDefEqProofs := false) (disch := first | omega | assumption | (simp only []; done) | fail) only [go_sem]))
      | (refine vc_pure (c2) rfl ?_; (try simp (config := { maxSteps := 2000000 }) (implicitDefEqProofs := false) (disch := first | omega | assumption | (simp only [List.length_cons, List.length_nil, Nat.zero_add, Nat.reduceAdd]; done) | fail) only [go_sem, ↓reduceIte, reduceCtorEq, Nat.reduceBEq, Int.reduceBEq, hg]))
      )
    all_goals first | rfl | (rw [if_pos (by assumption)]; rfl) | (rw [if_neg (by omega)]; rfl)
theorem clipI_v (l : List Int) : VCalls Try.prog 38 [.pv (.sl (fz encI l))] [] (Ret (.pv (.slc (fz encI l)))) := by
  refine vcalls_drop (fn := Try.f38) Try.func38 rfl (by kernel_rfl) (by simp [Try.f38]) ?_
  simp (config := { maxSteps := 2000000 }) (implicitDefEqProofs := false) (disch := first | omega | assumption | (simp only []; done) | fail) only [go_sem, Nat.reduceLT, Nat.reduceBEq, Int.reduceLT, Int.reduceBEq, Try.f38]
theorem app_I (l : List Int) (x : Int) : cells encI l ++ [.pv (.lit (.int .i64 x))] = cells encI (l ++ [x]) := by rw [cells_app]; rfl
theorem lenI (l : List Int) : (cells encI l).length = l.length * 1 := cells_len encI l
theorem allI (l : List Int) (n : Nat) (h : l.length * 1 ≤ n) : (cells encI l).take n = cells encI l := by rw [List.take_of_length_le]; rw [lenI]; exact h
theorem slkI (l : List Int) (T : TypeId) (a b : Nat) (h : a ≤ b ∧ b ≤ l.length) : vslk (some (none, T, 1)) (fz encI l) a b = some (.pv (.sl (fz encI ((l.take b).drop a)))) := vslk_fz encI l T a b h
theorem srcI (l : List Int) : (fz encI l = [] ∨ (fz encI l)[0]?.map List.length = some 1) = True := fz_src encI l
theorem frzI {n : Nat} {hp : Heap} {len : Nat} {l : List Int} (h : l.length = len) : frzC n hp 0 1 len (some (cells encI l)) = some (.sl (fz encI l)) := frzC_cells encI h

theorem tblB_at {l : List Tx} (h : tblB l = true) {i : Nat} (hi : i < l.length) : l[i].okB = true := by
  simp only [tblB, Bool.and_eq_true, List.all_eq_true, List.mem_range, decide_eq_true_eq] at h
  have := ((tC_iff l i).1 (h.2 i hi)).1
  rwa [getD_eq l i hi] at this
def saveS (l : List Tx) (a : Int) : List Tx × Int :=
  if (activeS l a).2 ≠ 0 then ([], (activeS l a).2) else if (activeS l a).1.s.length = 8 then ([], 21) else (l.set (idT l a).toNat { (activeS l a).1 with s := (activeS l a).1.s ++ [(activeS l a).1.n] }, 0)
set_option maxHeartbeats 2000000 in
theorem save_v (l : List Tx) (hs : smL l) (a : Int) : VCalls Try.prog 23 [.pv (.sl (fz encT l)), .int .i64 a] [] (Ret (tblD (saveS l a))) := by
  refine VCalls.unwk ?_
  refine vcalls_drop (fn := Try.f23) Try.func23 rfl (by kernel_rfl) (by simp [Try.f23]) ?_
  have c1 := active_v l hs a
  have hw := fun (i : Nat) (hi : i < l.length) (t : Tx) (h : idT l t.id = i) => with_v l hs.1 t i hi h
  have hok := @activeS_ok l a
  unfold saveS
  by_cases hz : (activeS l a).2 = 0
  · obtain ⟨hv, i, hi, h1, h2, h3⟩ := hok hz
    have hts : l[i].l.length ≤ 4096 ∧ l[i].s.length ≤ 8 := by
      have := tblB_at hv hi
      simp only [Tx.okB, Tx.hdB, Bool.and_eq_true, decide_eq_true_eq] at this
      omega
    generalize activeS l a = r at *
    obtain ⟨t, e⟩ := r
    obtain rfl : e = 0 := hz
    obtain rfl : t = l[i] := h3
    have hw2 := hw i hi ⟨l[i].id, l[i].st, l[i].n, l[i].b, l[i].l, l[i].s ++ [l[i].n]⟩ (by rw [h2]; exact h1)
    rw [h1, Int.toNat_natCast]
    generalize l[i] = t at *
    obtain ⟨id, st, n, b, q, s⟩ := t
    unfold actD at c1
    obtain ⟨hq, hs8⟩ := hts
    dsimp only at hs8
    simp (config := { maxSteps := 2000000 }) (implicitDefEqProofs := false) (disch := first | omega | assumption | (simp only []; done) | fail) only [go_sem, ↓reduceIte, Nat.reduceAdd, Nat.reduceBEq, Int.reduceAdd, Int.reduceBEq, Try.f23]
    skip
    repeat' (first
      | (refine vrunG_split (fun hZ => ?_) (fun hZ => ?_) <;> (try rw [hZ]) <;> (try simp only [decide_eq_true_eq, decide_eq_false_iff_not, Bool.or_eq_true, Bool.and_eq_true, Bool.or_eq_false_iff, Bool.and_eq_false_imp, Bool.not_eq_true', Bool.not_eq_false', beq_iff_eq, beq_eq_false_iff_ne, bne_iff_ne, bne_eq_false_iff_eq, ne_eq, Bool.not_eq_eq_eq_not, Bool.not_true, Bool.not_false] at hZ) <;> (try (first | rw [(hZ : _ = false)] | rw [(hZ : _ = true)])) <;> skip)
      | (refine vbr_split (fun hZ => ?_) (fun hZ => ?_) <;> (try rw [hZ]) <;> (try simp only [decide_eq_true_eq, decide_eq_false_iff_not, Bool.or_eq_true, Bool.and_eq_true, Bool.or_eq_false_iff, Bool.and_eq_false_imp, Bool.not_eq_true', Bool.not_eq_false', beq_iff_eq, beq_eq_false_iff_ne, bne_iff_ne, bne_eq_false_iff_eq, ne_eq, Bool.not_eq_eq_eq_not, Bool.not_true, Bool.not_false] at hZ) <;> (try (first | rw [(hZ : _ = false)] | rw [(hZ : _ = true)])) <;> (try simp (config := { maxSteps := 2000000 }) (implicitDefEqProofs := false) (disch := first | omega | assumption | (simp only []; done) | fail) only [go_sem, Nat.reduceBEq, Int.reduceBEq]))
      | (refine vdrG_split (fun hZ => ?_) (fun hZ => ?_) <;> (try rw [hZ]) <;> (try simp only [decide_eq_true_eq, decide_eq_false_iff_not, Bool.or_eq_true, Bool.and_eq_true, Bool.or_eq_false_iff, Bool.and_eq_false_imp, Bool.not_eq_true', Bool.not_eq_false', beq_iff_eq, beq_eq_false_iff_ne, bne_iff_ne, bne_eq_false_iff_eq, ne_eq, Bool.not_eq_eq_eq_not, Bool.not_true, Bool.not_false] at hZ) <;> (try (first | rw [(hZ : _ = false)] | rw [(hZ : _ = true)])) <;> skip)
      | (refine vc_giveA [2] _ _ (hw2) rfl ⟨⟨by simp, cells_nums _ _ _⟩, trivial⟩ (by decide) rfl (by simp [DV.nums.go, DV.nums]) ?_ ?_; (focus (simp (config := { maxSteps := 2000000 }) (implicitDefEqProofs := false) (disch := first | omega | assumption | (simp only [List.length_append, List.length_cons, List.length_nil] <;> omega) | fail) only [go_sem, ↓reduceIte, DV.ren, DV.ren.go, List.idxOf_cons, List.getD_cons_succ, List.getD_cons_zero, Tx.d, frzI]; done)); (try simp (config := { maxSteps := 2000000 }) (implicitDefEqProofs := false) (disch := first | omega | assumption | (simp only []; done) | fail) only [go_sem, Nat.reduceBEq, Int.reduceBEq]))
      | (refine vc_pure (c1) rfl ?_; (try simp (config := { maxSteps := 2000000 }) (implicitDefEqProofs := false) (disch := first | omega | assumption | (simp only []; done) | fail) only [go_sem, V.splice, ↓reduceIte, reduceCtorEq, Nat.reduceAdd, Nat.reduceBEq, Int.reduceAdd, Int.reduceBEq, Tx.d]))
      | (refine vc_pure (clipI_v s) rfl ?_; (try simp (config := { maxSteps := 2000000 }) (implicitDefEqProofs := false) (disch := first | omega | assumption | (simp only []; done) | fail) only [go_sem, V.splice, V.mk, ↓reduceIte, reduceCtorEq, Nat.reduceAdd, Nat.reduceLT, Nat.reduceLeDiff, Nat.reduceBEq, Int.reduceLT, Int.reduceAdd, Int.reduceBEq, app_I, srcI, mem_ok]))
      | (refine vspine (id := 6) [0, 1, 3, 4] [⟨[5], [], 2, [0, 3, 4], []⟩, ⟨[5], [5], 6, [0, 1, 3, 4], [7]⟩, ⟨[], [], 8, [], []⟩] (by kernel_rfl) (by kernel_rfl) ?_; (try simp (config := { maxSteps := 2000000 }) (implicitDefEqProofs := false) (disch := first | omega | assumption | (simp only []; done) | fail) only [go_sem, V.splice, V.mk, ↓reduceIte, reduceCtorEq, Nat.reduceLT, Nat.reduceLeDiff, Nat.reduceBEq, Int.reduceLT, Int.reduceBEq]))
      )
    all_goals first | rfl | (rw [if_pos (by omega)]; rfl) | (rw [if_neg (by omega)]; rfl) | skip
  · generalize activeS l a = r at *
    obtain ⟨⟨id, st, n, b, q, s⟩, e⟩ := r
    unfold actD at c1
    dsimp only at hz ⊢
    simp (config := { maxSteps := 2000000 }) (implicitDefEqProofs := false) (disch := first | omega | assumption | (simp only []; done) | fail) only [go_sem, Nat.reduceAdd, Nat.reduceBEq, Int.reduceAdd, Int.reduceBEq, Try.f23]
    skip
    repeat' (first
      | (refine vrunG_split (fun hZ => ?_) (fun hZ => ?_) <;> (try rw [hZ]) <;> (try simp only [decide_eq_true_eq, decide_eq_false_iff_not, Bool.or_eq_true, Bool.and_eq_true, Bool.or_eq_false_iff, Bool.and_eq_false_imp, Bool.not_eq_true', Bool.not_eq_false', beq_iff_eq, beq_eq_false_iff_ne, bne_iff_ne, bne_eq_false_iff_eq, ne_eq, Bool.not_eq_eq_eq_not, Bool.not_true, Bool.not_false] at hZ) <;> (try (first | rw [(hZ : _ = false)] | rw [(hZ : _ = true)])) <;> skip)
      | (refine vbr_split (fun hZ => ?_) (fun hZ => ?_) <;> (try rw [hZ]) <;> (try simp only [decide_eq_true_eq, decide_eq_false_iff_not, Bool.or_eq_true, Bool.and_eq_true, Bool.or_eq_false_iff, Bool.and_eq_false_imp, Bool.not_eq_true', Bool.not_eq_false', beq_iff_eq, beq_eq_false_iff_ne, bne_iff_ne, bne_eq_false_iff_eq, ne_eq, Bool.not_eq_eq_eq_not, Bool.not_true, Bool.not_false] at hZ) <;> (try (first | rw [(hZ : _ = false)] | rw [(hZ : _ = true)])) <;> skip)
      | (refine vdrG_split (fun hZ => ?_) (fun hZ => ?_) <;> (try rw [hZ]) <;> (try simp only [decide_eq_true_eq, decide_eq_false_iff_not, Bool.or_eq_true, Bool.and_eq_true, Bool.or_eq_false_iff, Bool.and_eq_false_imp, Bool.not_eq_true', Bool.not_eq_false', beq_iff_eq, beq_eq_false_iff_ne, bne_iff_ne, bne_eq_false_iff_eq, ne_eq, Bool.not_eq_eq_eq_not, Bool.not_true, Bool.not_false] at hZ) <;> (try (first | rw [(hZ : _ = false)] | rw [(hZ : _ = true)])) <;> skip)
      | (refine vc_pure (c1) rfl ?_; (try simp (config := { maxSteps := 2000000 }) (implicitDefEqProofs := false) (disch := first | omega | assumption | (simp only []; done) | fail) only [go_sem, V.splice, ↓reduceIte, Nat.reduceAdd, Nat.reduceBEq, Int.reduceAdd, Int.reduceBEq, Tx.d]))
      )
    all_goals first | rfl | contradiction | (rw [if_pos (by assumption)]; rfl)
end Go.Proofs.Ytkbahhackcnnbaa

namespace Go.Proofs.Ytkbahhackcnnbaa
open Go.V Go
set_option maxRecDepth 100000
set_option linter.unusedSimpArgs false

def backS (l : List Tx) (a sv : Int) : List Tx × Int :=
  if (activeS l a).2 ≠ 0 then ([], (activeS l a).2)
  else if sv < 0 ∨ ((activeS l a).1.s.length : Int) ≤ sv then ([], 19)
  else if leftB (activeS l a).1 ((activeS l a).1.s.getD sv.toNat 0) = true then (l.set (idT l a).toNat { (activeS l a).1 with s := (activeS l a).1.s.take (sv.toNat + 1), st := 2, b := (activeS l a).1.s.getD sv.toNat 0 }, 0)
  else (l.set (idT l a).toNat { (activeS l a).1 with s := (activeS l a).1.s.take (sv.toNat + 1) }, 0)
set_option maxHeartbeats 2000000 in
theorem back_v (l : List Tx) (hs : smL l) (a sv : Int) : VCalls Try.prog 31 [.pv (.sl (fz encT l)), .int .i64 a, .int .i64 sv] [] (Ret (tblD (backS l a sv))) := by
  refine VCalls.unwk ?_
  refine vcalls_drop (fn := Try.f31) Try.func31 rfl (by kernel_rfl) (by simp [Try.f31]) ?_
  have c1 := active_v l hs a
  have hw := fun (i : Nat) (hi : i < l.length) (t : Tx) (h : idT l t.id = i) => with_v l hs.1 t i hi h
  have hok := @activeS_ok l a
  unfold backS
  by_cases hz : (activeS l a).2 = 0
  · obtain ⟨hv, i, hi, h1, h2, h3⟩ := hok hz
    have hts : l[i].l.length ≤ 4096 ∧ l[i].s.length ≤ 8 := by
      have := tblB_at hv hi
      simp only [Tx.okB, Tx.hdB, Bool.and_eq_true, decide_eq_true_eq] at this
      omega
    generalize activeS l a = r at *
    obtain ⟨t, e⟩ := r
    obtain rfl : e = 0 := hz
    obtain rfl : t = l[i] := h3
    rw [h1, Int.toNat_natCast]
    by_cases hr : sv < 0 ∨ ((l[i].s.length : Int) ≤ sv)
    · generalize l[i] = t at *
      obtain ⟨id, st, n, b, q, s⟩ := t
      unfold actD at c1
      dsimp only at hr ⊢
      rw [if_neg (by simp), if_pos hr]
      simp (config := { maxSteps := 2000000 }) (implicitDefEqProofs := false) (disch := first | omega | assumption | (simp only []; done) | fail) only [go_sem, Nat.reduceAdd, Nat.reduceBEq, Int.reduceAdd, Int.reduceBEq, Try.f31]
      skip
      repeat' (first
        | (refine vrunG_split (fun hZ => ?_) (fun hZ => ?_) <;> (try rw [hZ]) <;> (try simp only [decide_eq_true_eq, decide_eq_false_iff_not, Bool.or_eq_true, Bool.and_eq_true, Bool.or_eq_false_iff, Bool.and_eq_false_imp, Bool.not_eq_true', Bool.not_eq_false', beq_iff_eq, beq_eq_false_iff_ne, bne_iff_ne, bne_eq_false_iff_eq, ne_eq, Bool.not_eq_eq_eq_not, Bool.not_true, Bool.not_false] at hZ) <;> (try (first | rw [(hZ : _ = false)] | rw [(hZ : _ = true)])) <;> (try simp (config := { maxSteps := 2000000 }) (implicitDefEqProofs := false) (disch := first | omega | assumption | (simp only []; done) | fail) only [go_sem, ↓reduceIte, reduceCtorEq, Nat.reduceBEq, Int.reduceBEq]))
        | (refine vbr_split (fun hZ => ?_) (fun hZ => ?_) <;> (try rw [hZ]) <;> (try simp only [decide_eq_true_eq, decide_eq_false_iff_not, Bool.or_eq_true, Bool.and_eq_true, Bool.or_eq_false_iff, Bool.and_eq_false_imp, Bool.not_eq_true', Bool.not_eq_false', beq_iff_eq, beq_eq_false_iff_ne, bne_iff_ne, bne_eq_false_iff_eq, ne_eq, Bool.not_eq_eq_eq_not, Bool.not_true, Bool.not_false] at hZ) <;> (try (first | rw [(hZ : _ = false)] | rw [(hZ : _ = true)])) <;> skip)
        | (refine vdrG_split (fun hZ => ?_) (fun hZ => ?_) <;> (try rw [hZ]) <;> (try simp only [decide_eq_true_eq, decide_eq_false_iff_not, Bool.or_eq_true, Bool.and_eq_true, Bool.or_eq_false_iff, Bool.and_eq_false_imp, Bool.not_eq_true', Bool.not_eq_false', beq_iff_eq, beq_eq_false_iff_ne, bne_iff_ne, bne_eq_false_iff_eq, ne_eq, Bool.not_eq_eq_eq_not, Bool.not_true, Bool.not_false] at hZ) <;> (try (first | rw [(hZ : _ = false)] | rw [(hZ : _ = true)])) <;> skip)
        | (refine vc_pure (c1) rfl ?_; (try simp (config := { maxSteps := 2000000 }) (implicitDefEqProofs := false) (disch := first | omega | assumption | (simp only []; done) | fail) only [go_sem, V.splice, ↓reduceIte, Nat.reduceAdd, Nat.reduceBEq, Int.reduceAdd, Int.reduceBEq, Tx.d]))
        )
      all_goals first | rfl | (exfalso; omega)
    obtain ⟨k, rfl⟩ : ∃ k : Nat, sv = k := ⟨sv.toNat, by omega⟩
    have hk : k < l[i].s.length := by omega
    rw [if_neg (by simp), if_neg (by omega), Int.toNat_natCast]
    have hw2 := hw i hi ⟨l[i].id, 2, l[i].n, l[i].s.getD k 0, l[i].l, l[i].s.take (k + 1)⟩ (by rw [h2]; exact h1)
    have hw3 := hw i hi ⟨l[i].id, l[i].st, l[i].n, l[i].b, l[i].l, l[i].s.take (k + 1)⟩ (by rw [h2]; exact h1)
    generalize l[i] = t at *
    obtain ⟨id, st, n, b, q, s⟩ := t
    unfold actD at c1
    have c5 := left_v ⟨id, st, n, b, q, s.take (k + 1)⟩ ⟨by have := hts.1; dsimp only at this ⊢; omega, by have := hts.2; dsimp only at this ⊢; rw [List.length_take]; omega⟩ (s.getD k 0)
    change VCalls _ _ _ _ (Ret (.bool (leftB ⟨id, st, n, b, q, s⟩ (s.getD k 0)))) at c5
    generalize leftB ⟨id, st, n, b, q, s⟩ (s.getD k 0) = B at *
    obtain ⟨hq, hs8⟩ := hts
    dsimp only at hs8 hk
    have cl := cloneI_v (s.take (k + 1)) (by rw [List.length_take]; omega)
    have hg : (fz encI (s.take (k + 1)))[k]? = some [.lit (.int .i64 (s.getD k 0))] := by
      rw [fzI_get _ _ (by rw [List.length_take]; omega)]
      simp [List.getD_eq_getElem?_getD, List.getElem?_take]
    have hgc : (cells encI (s.take (k + 1)))[k]? = some (.int .i64 (s.getD k 0)) := by
      rw [cellsI_get _ _ (by rw [List.length_take]; omega)]
      simp [List.getD_eq_getElem?_getD, List.getElem?_take]
    have hd : ((cells encI (s.take (k + 1))).drop k).take 1 = [.int .i64 (s.getD k 0)] := by
      have := (List.getElem?_eq_some_iff.1 hgc)
      obtain ⟨h, e⟩ := this
      rw [List.drop_eq_getElem_cons h, e]; rfl
    have hl1 : (s.take (k + 1)).length = k + 1 := by rw [List.length_take]; omega
    have ek : ((k : Int) + 1).toNat = k + 1 := by omega
    rw [hl1] at cl
    simp (config := { maxSteps := 2000000 }) (implicitDefEqProofs := false) (disch := first | omega | assumption | (simp only []; done) | fail) only [go_sem, Nat.reduceAdd, Nat.reduceBEq, Int.reduceAdd, Int.reduceBEq, Try.f31]
    skip
    repeat' (first
      | (refine vrunG_split (fun hZ => ?_) (fun hZ => ?_) <;> (try rw [hZ]) <;> (try simp only [decide_eq_true_eq, decide_eq_false_iff_not, Bool.or_eq_true, Bool.and_eq_true, Bool.or_eq_false_iff, Bool.and_eq_false_imp, Bool.not_eq_true', Bool.not_eq_false', beq_iff_eq, beq_eq_false_iff_ne, bne_iff_ne, bne_eq_false_iff_eq, ne_eq, Bool.not_eq_eq_eq_not, Bool.not_true, Bool.not_false] at hZ) <;> (try (first | rw [(hZ : _ = false)] | rw [(hZ : _ = true)])) <;> skip)
      | (refine vbr_split (fun hZ => ?_) (fun hZ => ?_) <;> (try rw [hZ]) <;> (try simp only [decide_eq_true_eq, decide_eq_false_iff_not, Bool.or_eq_true, Bool.and_eq_true, Bool.or_eq_false_iff, Bool.and_eq_false_imp, Bool.not_eq_true', Bool.not_eq_false', beq_iff_eq, beq_eq_false_iff_ne, bne_iff_ne, bne_eq_false_iff_eq, ne_eq, Bool.not_eq_eq_eq_not, Bool.not_true, Bool.not_false] at hZ) <;> (try (first | rw [(hZ : _ = false)] | rw [(hZ : _ = true)])) <;> (try simp (config := { maxSteps := 2000000 }) (implicitDefEqProofs := false) (disch := first | omega | assumption | (simp only []; done) | fail) only [go_sem, ↓reduceIte, Nat.reduceAdd, Nat.reduceLT, Nat.reduceBEq, Int.reduceLT, Int.reduceAdd, Int.reduceBEq]))
      | (refine vdrG_split (fun hZ => ?_) (fun hZ => ?_) <;> (try rw [hZ]) <;> (try simp only [decide_eq_true_eq, decide_eq_false_iff_not, Bool.or_eq_true, Bool.and_eq_true, Bool.or_eq_false_iff, Bool.and_eq_false_imp, Bool.not_eq_true', Bool.not_eq_false', beq_iff_eq, beq_eq_false_iff_ne, bne_iff_ne, bne_eq_false_iff_eq, ne_eq, Bool.not_eq_eq_eq_not, Bool.not_true, Bool.not_false] at hZ) <;> (try (first | rw [(hZ : _ = false)] | rw [(hZ : _ = true)])) <;> skip)
      | (refine vc_new0 (cl) rfl (cells_nums _ _ _) ?_; (try simp (config := { maxSteps := 2000000 }) (implicitDefEqProofs := false) (disch := first | omega | assumption | (simp only []; done) | fail) only [go_sem, ↓reduceIte, reduceCtorEq, Nat.reduceAdd, Nat.reduceLT, Nat.reduceBEq, Int.reduceLT, Int.reduceAdd, Int.reduceBEq]))
      | (refine vc_giveA [1] _ _ (hw2) rfl ⟨⟨by simp, cells_nums _ _ _⟩, trivial⟩ (by decide) rfl (by simp [DV.nums.go, DV.nums]) ?_ ?_; (focus (simp (config := { maxSteps := 2000000 }) (implicitDefEqProofs := false) (disch := first | omega | assumption) only [go_sem, ↓reduceIte, DV.ren, DV.ren.go, List.idxOf_cons, List.getD_cons_succ, List.getD_cons_zero, Tx.d, frzI]; done)); (try simp (config := { maxSteps := 2000000 }) (implicitDefEqProofs := false) (disch := first | omega | assumption | (simp only []; done) | fail) only [go_sem, Nat.reduceBEq, Int.reduceBEq]))
      | (refine vc_giveA [1] _ _ (hw3) rfl ⟨⟨by simp, cells_nums _ _ _⟩, trivial⟩ (by decide) rfl (by simp [DV.nums.go, DV.nums]) ?_ ?_; (focus (simp (config := { maxSteps := 2000000 }) (implicitDefEqProofs := false) (disch := first | omega | assumption) only [go_sem, ↓reduceIte, DV.ren, DV.ren.go, List.idxOf_cons, List.getD_cons_succ, List.getD_cons_zero, Tx.d, frzI]; done)); (try simp (config := { maxSteps := 2000000 }) (implicitDefEqProofs := false) (disch := first | omega | assumption | (simp only []; done) | fail) only [go_sem, Nat.reduceBEq, Int.reduceBEq]))
      | (refine vc_pure (c1) rfl ?_; (try simp (config := { maxSteps := 2000000 }) (implicitDefEqProofs := false) (disch := first | omega | assumption | (simp only []; done) | fail) only [go_sem, V.splice, ↓reduceIte, reduceCtorEq, Nat.reduceAdd, Nat.reduceBEq, Int.reduceAdd, Int.reduceBEq, Tx.d, slkI, ek]))
      | (refine vc_lendA (c5) ?_ rfl ?_; (focus (simp (config := { maxSteps := 2000000 }) (implicitDefEqProofs := false) (disch := first | omega | assumption) only [go_sem, ↓reduceIte, Nat.reduceLT, Int.reduceLT, Tx.d, frzI]; done)); (try simp (config := { maxSteps := 2000000 }) (implicitDefEqProofs := false) (disch := first | omega | assumption) only [go_sem, Nat.reduceBEq, Int.reduceBEq]))
      | (refine vspine (id := 7) [0, 1, 2, 3, 4, 5] [⟨[], [], 6, [1, 2, 3, 4], []⟩] (by kernel_rfl) (by kernel_rfl) ?_; (try simp (config := { maxSteps := 2000000 }) (implicitDefEqProofs := false) (disch := first | omega | assumption | (simp only []; done) | fail) only [go_sem, ↓reduceIte, reduceCtorEq, Nat.reduceAdd, Nat.reduceBEq, Int.reduceAdd, Int.reduceBEq, hgc]))
      | (refine vspine (id := 8) [0, 1, 2, 3, 4, 5] [⟨[], [], 6, [2, 3, 4], [7]⟩, ⟨[], [], 8, [], []⟩] (by kernel_rfl) (by kernel_rfl) ?_; (try simp (config := { maxSteps := 2000000 }) (implicitDefEqProofs := false) (disch := first | omega | assumption | (simp only []; done) | fail) only [go_sem, ↓reduceIte, reduceCtorEq, Nat.reduceAdd, Nat.reduceLT, Nat.reduceBEq, Int.reduceLT, Int.reduceAdd, Int.reduceBEq, hgc]))
      )
    all_goals first | rfl | (rw [if_pos (by assumption)]; rfl) | (rw [if_neg (by assumption)]; rfl) | skip
  · generalize activeS l a = r at *
    obtain ⟨⟨id, st, n, b, q, s⟩, e⟩ := r
    unfold actD at c1
    dsimp only at hz ⊢
    simp (config := { maxSteps := 2000000 }) (implicitDefEqProofs := false) (disch := first | omega | assumption | (simp only []; done) | fail) only [go_sem, Nat.reduceAdd, Nat.reduceBEq, Int.reduceAdd, Int.reduceBEq, Try.f31]
    skip
    repeat' (first
      | (refine vrunG_split (fun hZ => ?_) (fun hZ => ?_) <;> (try rw [hZ]) <;> (try simp only [decide_eq_true_eq, decide_eq_false_iff_not, Bool.or_eq_true, Bool.and_eq_true, Bool.or_eq_false_iff, Bool.and_eq_false_imp, Bool.not_eq_true', Bool.not_eq_false', beq_iff_eq, beq_eq_false_iff_ne, bne_iff_ne, bne_eq_false_iff_eq, ne_eq, Bool.not_eq_eq_eq_not, Bool.not_true, Bool.not_false] at hZ) <;> (try (first | rw [(hZ : _ = false)] | rw [(hZ : _ = true)])) <;> skip)
      | (refine vbr_split (fun hZ => ?_) (fun hZ => ?_) <;> (try rw [hZ]) <;> (try simp only [decide_eq_true_eq, decide_eq_false_iff_not, Bool.or_eq_true, Bool.and_eq_true, Bool.or_eq_false_iff, Bool.and_eq_false_imp, Bool.not_eq_true', Bool.not_eq_false', beq_iff_eq, beq_eq_false_iff_ne, bne_iff_ne, bne_eq_false_iff_eq, ne_eq, Bool.not_eq_eq_eq_not, Bool.not_true, Bool.not_false] at hZ) <;> (try (first | rw [(hZ : _ = false)] | rw [(hZ : _ = true)])) <;> skip)
      | (refine vdrG_split (fun hZ => ?_) (fun hZ => ?_) <;> (try rw [hZ]) <;> (try simp only [decide_eq_true_eq, decide_eq_false_iff_not, Bool.or_eq_true, Bool.and_eq_true, Bool.or_eq_false_iff, Bool.and_eq_false_imp, Bool.not_eq_true', Bool.not_eq_false', beq_iff_eq, beq_eq_false_iff_ne, bne_iff_ne, bne_eq_false_iff_eq, ne_eq, Bool.not_eq_eq_eq_not, Bool.not_true, Bool.not_false] at hZ) <;> (try (first | rw [(hZ : _ = false)] | rw [(hZ : _ = true)])) <;> skip)
      | (refine vc_pure (c1) rfl ?_; (try simp (config := { maxSteps := 2000000 }) (implicitDefEqProofs := false) (disch := first | omega | assumption | (simp only []; done) | fail) only [go_sem, V.splice, ↓reduceIte, Nat.reduceAdd, Nat.reduceBEq, Int.reduceAdd, Int.reduceBEq, Tx.d]))
      )
    all_goals first | rfl | contradiction | (rw [if_pos (by assumption)]; rfl)
end Go.Proofs.Ytkbahhackcnnbaa

namespace Go.Proofs.Ytkbahhackcnnbaa
open Go.V Go
set_option maxRecDepth 100000
set_option linter.unusedSimpArgs false

theorem lo_cons {α : Type} (a : α) (r : List α) (f : α → Bool) : lo (a :: r) f = if f a = true then lo r f + 1 else 0 := by
  unfold lo; rw [List.takeWhile_cons]; split <;> simp [*]
theorem sorted_lo : ∀ (l : List Int) (_ : l.Pairwise (· < ·)) (y : Int), ((l[lo l (fun x => decide (x < y))]?.map fun x => x == y).getD false = decide (y ∈ l)) ∧ (y ∈ l → lo l (fun x => decide (x < y)) < l.length ∧ l.take (lo l (fun x => decide (x < y))) ++ l.drop (lo l (fun x => decide (x < y)) + 1) = l.filter fun x => decide (x ≠ y))
  | [], _, y => by simp [lo]
  | a :: r, h, y => by
    rw [List.pairwise_cons] at h
    obtain ⟨h1, h2⟩ := sorted_lo r h.2 y
    rw [lo_cons]
    by_cases ha : a < y
    · rw [if_pos (by simpa using ha)]
      constructor
      · rw [List.getElem?_cons_succ, h1, decide_eq_decide, List.mem_cons]
        constructor
        · exact .inr
        · rintro (rfl | h)
          · omega
          · exact h
      · intro hm
        have hm' : y ∈ r := by
          rcases List.mem_cons.1 hm with rfl | h
          · omega
          · exact h
        obtain ⟨g1, g2⟩ := h2 hm'
        refine ⟨by simpa using g1, ?_⟩
        rw [List.take_succ_cons, List.drop_succ_cons, List.cons_append, g2, List.filter_cons, if_pos (decide_eq_true (by omega))]
    · rw [if_neg (by simpa using ha)]
      have hr : ∀ x ∈ r, y < x ∨ a = y ∧ y < x := fun x hx => by have := h.1 x hx; omega
      have hn : y ∉ r := fun hy => by have := hr y hy; omega
      constructor
      · rw [List.getElem?_cons_zero]
        rw [Option.map_some, Option.getD_some]
        have : (y ∈ a :: r) = (y = a) := by rw [List.mem_cons]; exact propext ⟨fun h => h.resolve_right hn, .inl⟩
        simp only [this]
        rw [Bool.eq_iff_iff, beq_iff_eq, decide_eq_true_eq]; exact ⟨Eq.symm, Eq.symm⟩
      · intro hm
        have hay : a = y := by
          rcases List.mem_cons.1 hm with h | h
          · exact h.symm
          · exact absurd h hn
        refine ⟨by simp, ?_⟩
        rw [List.take_zero, List.nil_append, List.drop_succ_cons, List.drop_zero, List.filter_cons, if_neg (by rw [decide_eq_true_eq]; exact fun h => h hay)]
        refine (List.filter_eq_self.2 fun x hx => ?_).symm
        have := hr x hx
        exact decide_eq_true (by omega)
theorem asc_pairwise {l : List Int} {lo hi : Int} (h : ascB l lo hi 1 = true) : l.Pairwise (· < ·) := by
  simp only [ascB, List.all_eq_true, List.mem_range] at h
  rw [List.pairwise_iff_getElem]
  have step : ∀ i, ∀ h2 : i + 1 < l.length, l[i] < l[i + 1] := fun i h2 => by
    have := (ascC_iff _ _ _ _ _).1 (h (i + 1) h2)
    rw [getD_eq l (i + 1) h2, Nat.add_sub_cancel, getD_eq l i (by omega)] at this
    omega
  have all : ∀ d i, ∀ h2 : i + d + 1 < l.length, l[i] < l[i + d + 1] := fun d => by
    induction d with
    | zero => exact step
    | succ d ih => intro i h2; exact Int.lt_trans (ih i (by omega)) (step (i + d + 1) h2)
  intro i j hi hj hij
  have := all (j - i - 1) i (by omega)
  simpa only [show i + (j - i - 1) + 1 = j by omega] using this
theorem sorted_fore {l : List Int} (h : l.Pairwise (· < ·)) (y : Int) : Fore l (fun x => decide (x < y)) := fun i j hi hj hij hx => by
  have := List.pairwise_iff_getElem.mp h i j hi hj hij
  rw [decide_eq_true_eq] at hx ⊢
  omega
theorem okB_asc {t : Tx} (h : t.okB = true) : t.l.Pairwise (· < ·) := by
  simp only [Tx.okB, Bool.and_eq_true] at h
  exact asc_pairwise h.1.2
theorem okB_len {t : Tx} (h : t.okB = true) : t.l.length ≤ 4096 ∧ t.s.length ≤ 8 := by
  simp only [Tx.okB, Tx.hdB, Bool.and_eq_true, decide_eq_true_eq] at h
  omega
def settleS (t : Tx) : Tx := if t.st = 2 ∧ leftB t t.b = false then { t with st := 1, b := 0 } else t
def noteT (t : Tx) (e : E) : Tx :=
  if e.kind = 1 then { t with n := e.lsn, l := t.l ++ [e.lsn] }
  else if e.kind = 2 then { t with n := e.lsn, l := t.l.filter fun x => decide (x ≠ e.ref) }
  else { t with n := e.lsn, st := 3, b := 0, s := [] }
/-- What an entry makes of a table in which its transaction lies at i. -/
def noteA (l : List Tx) (i : Nat) (t : Tx) (e : E) : List Tx × Int :=
  if e.ptx ≠ t.n ∨ (e.kind = 2 ∧ e.ref ∉ t.l) then ([], 13)
  else if e.kind = 3 ∨ e.kind = 5 then (remS l e.tx, 0)
  else (l.set i (settleS (noteT t e)), 0)
def noteS (l : List Tx) (e : E) : List Tx × Int :=
  if tblB l = false then ([], 15) else if e.okB = false then ([], 12) else if e.tx = 0 then (l, 0) else if idT l e.tx < 0 then ([], 16)
  else noteA l (idT l e.tx).toNat (l.getD (idT l e.tx).toNat Tx0) e
theorem okB_kind {e : E} (h : e.okB = true) (ht : e.tx ≠ 0) : e.kind = 1 ∨ e.kind = 2 ∨ e.kind = 3 ∨ e.kind = 4 ∨ e.kind = 5 := by
  obtain ⟨lsn, kind, tx, ptx, ppg, ref, c, blob⟩ := e
  simp only [E.okB, Bool.and_eq_true] at h
  have h := h.2
  rw [kindB_eq] at h
  dsimp only at ht ⊢
  rcases kind_cases kind with hk | rfl | rfl | rfl | rfl | rfl | rfl | rfl | rfl
  · rw [if_neg (by omega), if_neg (by omega), if_neg (by omega), if_neg (by omega), if_neg (by omega)] at h; cases h
  all_goals first | omega | (simp at h; omega)
end Go.Proofs.Ytkbahhackcnnbaa

namespace Go.Proofs.Ytkbahhackcnnbaa
open Go.V Go
set_option maxRecDepth 100000
set_option linter.unusedSimpArgs false

theorem noteS_at {l : List Tx} {e : E} (h1 : tblB l = true) (h2 : e.okB = true) (h3 : e.tx ≠ 0) {i : Nat} (hi : i < l.length) (h4 : idT l e.tx = i) : noteS l e = noteA l i l[i] e := by
  unfold noteS
  rw [if_neg (by rw [h1]; decide), if_neg (by rw [h2]; decide), if_neg h3, h4, if_neg (by omega), Int.toNat_natCast, getD_eq l i hi]
set_option maxHeartbeats 4000000 in
theorem note_v (l : List Tx) (hs : smL l) (e : E) : VCalls Try.prog 14 [.pv (.sl (fz encT l)), .agg e.d] [] (Ret (tblD (noteS l e))) := by
  refine VCalls.unwk ?_
  have c1 := tvalid_v l hs
  have c2 := valid_v e
  have c3 := find_v l hs.1 e.tx
  change VCalls _ _ _ _ (Ret (.int .i64 (idT l e.tx))) at c3
  have c4 := remove_v l hs.1 e.tx
  have hw := fun (i : Nat) (hi : i < l.length) (t : Tx) (h : idT l t.id = i) => with_v l hs.1 t i hi h
  have hok := @okB_kind e
  have hat := @noteS_at l e
  have e0 : noteS l e = if tblB l = false then ([], 15) else if e.okB = false then ([], 12) else if e.tx = 0 then (l, 0) else if idT l e.tx < 0 then ([], 16)
    else noteA l (idT l e.tx).toNat (l.getD (idT l e.tx).toNat Tx0) e := rfl
  by_cases hv : tblB l = true
  rotate_left
  · have hv' : tblB l = false := by simpa using hv
    rw [e0, if_pos hv']
    rw [hv'] at c1
    refine vcalls_drop (fn := Try.f14) Try.func14 rfl (by kernel_rfl) (by simp [Try.f14]) ?_
    unfold E.d
    simp (config := { maxSteps := 2000000 }) (implicitDefEqProofs := false) (disch := first | omega | assumption | (simp only []; done) | fail) only [go_sem, ↓reduceIte, Nat.reduceAdd, Nat.reduceBEq, Int.reduceAdd, Int.reduceBEq, Try.f14]
    skip
    repeat' (first
      | (refine vrunG_split (fun hZ => ?_) (fun hZ => ?_) <;> (try rw [hZ]) <;> (try simp only [decide_eq_true_eq, decide_eq_false_iff_not, Bool.or_eq_true, Bool.and_eq_true, Bool.or_eq_false_iff, Bool.and_eq_false_imp, Bool.not_eq_true', Bool.not_eq_false', beq_iff_eq, beq_eq_false_iff_ne, bne_iff_ne, bne_eq_false_iff_eq, ne_eq, Bool.not_eq_eq_eq_not, Bool.not_true, Bool.not_false] at hZ) <;> (try (first | rw [(hZ : _ = false)] | rw [(hZ : _ = true)])) <;> skip)
      | (refine vbr_split (fun hZ => ?_) (fun hZ => ?_) <;> (try rw [hZ]) <;> (try simp only [decide_eq_true_eq, decide_eq_false_iff_not, Bool.or_eq_true, Bool.and_eq_true, Bool.or_eq_false_iff, Bool.and_eq_false_imp, Bool.not_eq_true', Bool.not_eq_false', beq_iff_eq, beq_eq_false_iff_ne, bne_iff_ne, bne_eq_false_iff_eq, ne_eq, Bool.not_eq_eq_eq_not, Bool.not_true, Bool.not_false] at hZ) <;> (try (first | rw [(hZ : _ = false)] | rw [(hZ : _ = true)])) <;> skip)
      | (refine vdrG_split (fun hZ => ?_) (fun hZ => ?_) <;> (try rw [hZ]) <;> (try simp only [decide_eq_true_eq, decide_eq_false_iff_not, Bool.or_eq_true, Bool.and_eq_true, Bool.or_eq_false_iff, Bool.and_eq_false_imp, Bool.not_eq_true', Bool.not_eq_false', beq_iff_eq, beq_eq_false_iff_ne, bne_iff_ne, bne_eq_false_iff_eq, ne_eq, Bool.not_eq_eq_eq_not, Bool.not_true, Bool.not_false] at hZ) <;> (try (first | rw [(hZ : _ = false)] | rw [(hZ : _ = true)])) <;> skip)
      | (refine vc_pure (c1) rfl ?_; (try simp (config := { maxSteps := 2000000 }) (implicitDefEqProofs := false) (disch := first | omega | assumption | (simp only []; done) | fail) only [go_sem, Nat.reduceBEq, Int.reduceBEq]))
      )
    rfl
  by_cases hk : e.okB = true
  rotate_left
  · have hk' : e.okB = false := by simpa using hk
    rw [e0, if_neg (by rw [hv]; decide), if_pos hk']
    rw [hv] at c1
    rw [hk'] at c2
    unfold E.d at c2 ⊢
    refine vcalls_drop (fn := Try.f14) Try.func14 rfl (by kernel_rfl) (by simp [Try.f14]) ?_
    simp (config := { maxSteps := 2000000 }) (implicitDefEqProofs := false) (disch := first | omega | assumption | (simp only []; done) | fail) only [go_sem, ↓reduceIte, Nat.reduceAdd, Nat.reduceBEq, Int.reduceAdd, Int.reduceBEq, Try.f14]
    skip
    repeat' (first
      | (refine vrunG_split (fun hZ => ?_) (fun hZ => ?_) <;> (try rw [hZ]) <;> (try simp only [decide_eq_true_eq, decide_eq_false_iff_not, Bool.or_eq_true, Bool.and_eq_true, Bool.or_eq_false_iff, Bool.and_eq_false_imp, Bool.not_eq_true', Bool.not_eq_false', beq_iff_eq, beq_eq_false_iff_ne, bne_iff_ne, bne_eq_false_iff_eq, ne_eq, Bool.not_eq_eq_eq_not, Bool.not_true, Bool.not_false] at hZ) <;> (try (first | rw [(hZ : _ = false)] | rw [(hZ : _ = true)])) <;> skip)
      | (refine vbr_split (fun hZ => ?_) (fun hZ => ?_) <;> (try rw [hZ]) <;> (try simp only [decide_eq_true_eq, decide_eq_false_iff_not, Bool.or_eq_true, Bool.and_eq_true, Bool.or_eq_false_iff, Bool.and_eq_false_imp, Bool.not_eq_true', Bool.not_eq_false', beq_iff_eq, beq_eq_false_iff_ne, bne_iff_ne, bne_eq_false_iff_eq, ne_eq, Bool.not_eq_eq_eq_not, Bool.not_true, Bool.not_false] at hZ) <;> (try (first | rw [(hZ : _ = false)] | rw [(hZ : _ = true)])) <;> skip)
      | (refine vdrG_split (fun hZ => ?_) (fun hZ => ?_) <;> (try rw [hZ]) <;> (try simp only [decide_eq_true_eq, decide_eq_false_iff_not, Bool.or_eq_true, Bool.and_eq_true, Bool.or_eq_false_iff, Bool.and_eq_false_imp, Bool.not_eq_true', Bool.not_eq_false', beq_iff_eq, beq_eq_false_iff_ne, bne_iff_ne, bne_eq_false_iff_eq, ne_eq, Bool.not_eq_eq_eq_not, Bool.not_true, Bool.not_false] at hZ) <;> (try (first | rw [(hZ : _ = false)] | rw [(hZ : _ = true)])) <;> skip)
      | (refine vc_pure (c1) rfl ?_; (try simp (config := { maxSteps := 2000000 }) (implicitDefEqProofs := false) (disch := first | omega | assumption | (simp only []; done) | fail) only [go_sem, ↓reduceIte, Nat.reduceAdd, Nat.reduceBEq, Int.reduceAdd, Int.reduceBEq]))
      | (refine vc_pure (c2) rfl ?_; (try simp (config := { maxSteps := 2000000 }) (implicitDefEqProofs := false) (disch := first | omega | assumption | (simp only []; done) | fail) only [go_sem, Nat.reduceBEq, Int.reduceBEq]))
      )
    rfl
  by_cases ht : e.tx = 0
  · rw [e0, if_neg (by rw [hv]; decide), if_neg (by rw [hk]; decide), if_pos ht]
    rw [hv] at c1
    rw [hk] at c2
    unfold E.d at c2 ⊢
    refine vcalls_drop (fn := Try.f14) Try.func14 rfl (by kernel_rfl) (by simp [Try.f14]) ?_
    simp (config := { maxSteps := 2000000 }) (implicitDefEqProofs := false) (disch := first | omega | assumption | (simp only []; done) | fail) only [go_sem, ↓reduceIte, Nat.reduceAdd, Nat.reduceBEq, Int.reduceAdd, Int.reduceBEq, Try.f14]
    (try simp (config := { maxSteps := 2000000 }) (implicitDefEqProofs := false) (disch := first | omega | assumption) only [go_sem, ht])
    repeat' (first
      | (refine vrunG_split (fun hZ => ?_) (fun hZ => ?_) <;> (try rw [hZ]) <;> (try simp only [decide_eq_true_eq, decide_eq_false_iff_not, Bool.or_eq_true, Bool.and_eq_true, Bool.or_eq_false_iff, Bool.and_eq_false_imp, Bool.not_eq_true', Bool.not_eq_false', beq_iff_eq, beq_eq_false_iff_ne, bne_iff_ne, bne_eq_false_iff_eq, ne_eq, Bool.not_eq_eq_eq_not, Bool.not_true, Bool.not_false] at hZ) <;> (try (first | rw [(hZ : _ = false)] | rw [(hZ : _ = true)])) <;> skip)
      | (refine vbr_split (fun hZ => ?_) (fun hZ => ?_) <;> (try rw [hZ]) <;> (try simp only [decide_eq_true_eq, decide_eq_false_iff_not, Bool.or_eq_true, Bool.and_eq_true, Bool.or_eq_false_iff, Bool.and_eq_false_imp, Bool.not_eq_true', Bool.not_eq_false', beq_iff_eq, beq_eq_false_iff_ne, bne_iff_ne, bne_eq_false_iff_eq, ne_eq, Bool.not_eq_eq_eq_not, Bool.not_true, Bool.not_false] at hZ) <;> (try (first | rw [(hZ : _ = false)] | rw [(hZ : _ = true)])) <;> skip)
      | (refine vdrG_split (fun hZ => ?_) (fun hZ => ?_) <;> (try rw [hZ]) <;> (try simp only [decide_eq_true_eq, decide_eq_false_iff_not, Bool.or_eq_true, Bool.and_eq_true, Bool.or_eq_false_iff, Bool.and_eq_false_imp, Bool.not_eq_true', Bool.not_eq_false', beq_iff_eq, beq_eq_false_iff_ne, bne_iff_ne, bne_eq_false_iff_eq, ne_eq, Bool.not_eq_eq_eq_not, Bool.not_true, Bool.not_false] at hZ) <;> (try (first | rw [(hZ : _ = false)] | rw [(hZ : _ = true)])) <;> skip)
      | (refine vc_pure (c1) rfl ?_; (try simp (config := { maxSteps := 2000000 }) (implicitDefEqProofs := false) (disch := first | omega | assumption | (simp only []; done) | fail) only [go_sem, ↓reduceIte, Nat.reduceAdd, Nat.reduceBEq, Int.reduceAdd, Int.reduceBEq]))
      | (refine vc_lendA (c2) ?_ rfl ?_; (focus (simp (config := { maxSteps := 2000000 }) (implicitDefEqProofs := false) (disch := first | omega | assumption) only [go_sem, ht]; done)); (try simp (config := { maxSteps := 2000000 }) (implicitDefEqProofs := false) (disch := first | omega | assumption | (simp only []; done) | fail) only [go_sem, ↓reduceIte, reduceCtorEq, Nat.reduceBEq, Int.reduceBEq]))
      )
    rfl
  rw [hv] at c1
  rw [hk] at c2
  rcases idT_cases l e.tx with h | ⟨i, hi, h, hid⟩
  · rw [e0, if_neg (by rw [hv]; decide), if_neg (by rw [hk]; decide), if_neg ht, h, if_pos (by decide)]
    rw [h] at c3
    unfold E.d at c2 ⊢
    refine vcalls_drop (fn := Try.f14) Try.func14 rfl (by kernel_rfl) (by simp [Try.f14]) ?_
    simp (config := { maxSteps := 2000000 }) (implicitDefEqProofs := false) (disch := first | omega | assumption | (simp only []; done) | fail) only [go_sem, ↓reduceIte, Nat.reduceAdd, Nat.reduceBEq, Int.reduceAdd, Int.reduceBEq, Try.f14]
    skip
    repeat' (first
      | (refine vrunG_split (fun hZ => ?_) (fun hZ => ?_) <;> (try rw [hZ]) <;> (try simp only [decide_eq_true_eq, decide_eq_false_iff_not, Bool.or_eq_true, Bool.and_eq_true, Bool.or_eq_false_iff, Bool.and_eq_false_imp, Bool.not_eq_true', Bool.not_eq_false', beq_iff_eq, beq_eq_false_iff_ne, bne_iff_ne, bne_eq_false_iff_eq, ne_eq, Bool.not_eq_eq_eq_not, Bool.not_true, Bool.not_false] at hZ) <;> (try (first | rw [(hZ : _ = false)] | rw [(hZ : _ = true)])) <;> skip)
      | (refine vbr_split (fun hZ => ?_) (fun hZ => ?_) <;> (try rw [hZ]) <;> (try simp only [decide_eq_true_eq, decide_eq_false_iff_not, Bool.or_eq_true, Bool.and_eq_true, Bool.or_eq_false_iff, Bool.and_eq_false_imp, Bool.not_eq_true', Bool.not_eq_false', beq_iff_eq, beq_eq_false_iff_ne, bne_iff_ne, bne_eq_false_iff_eq, ne_eq, Bool.not_eq_eq_eq_not, Bool.not_true, Bool.not_false] at hZ) <;> (try (first | rw [(hZ : _ = false)] | rw [(hZ : _ = true)])) <;> skip)
      | (refine vdrG_split (fun hZ => ?_) (fun hZ => ?_) <;> (try rw [hZ]) <;> (try simp only [decide_eq_true_eq, decide_eq_false_iff_not, Bool.or_eq_true, Bool.and_eq_true, Bool.or_eq_false_iff, Bool.and_eq_false_imp, Bool.not_eq_true', Bool.not_eq_false', beq_iff_eq, beq_eq_false_iff_ne, bne_iff_ne, bne_eq_false_iff_eq, ne_eq, Bool.not_eq_eq_eq_not, Bool.not_true, Bool.not_false] at hZ) <;> (try (first | rw [(hZ : _ = false)] | rw [(hZ : _ = true)])) <;> skip)
      | (refine vc_pure (c1) rfl ?_; (try simp (config := { maxSteps := 2000000 }) (implicitDefEqProofs := false) (disch := first | omega | assumption | (simp only []; done) | fail) only [go_sem, ↓reduceIte, Nat.reduceAdd, Nat.reduceBEq, Int.reduceAdd, Int.reduceBEq]))
      | (refine vc_pure (c2) rfl ?_; (try simp (config := { maxSteps := 2000000 }) (implicitDefEqProofs := false) (disch := first | omega | assumption | (simp only []; done) | fail) only [go_sem, ↓reduceIte, reduceCtorEq, Nat.reduceBEq, Int.reduceBEq]))
      | (refine vc_pure (c3) rfl ?_; (try simp (config := { maxSteps := 2000000 }) (implicitDefEqProofs := false) (disch := first | omega | assumption | (simp only []; done) | fail) only [go_sem, Nat.reduceLT, Nat.reduceBEq, Int.reduceLT, Int.reduceNeg, Int.reduceBEq]))
      )
    all_goals first | rfl | contradiction
  rw [hat hv hk ht hi h]
  have hkk := hok hk ht
  rw [h] at c3
  have hg := fzT_at l i hi
  have hto := tblB_at hv hi
  have hso := okB_asc hto
  have hle := okB_len hto
  clear hat e0 hok
  generalize hT : l[i] = t at *
  obtain ⟨id, st, n, b, q, s⟩ := t
  dsimp only at hid hso hle hg
  have bs := bsearchI_v q (by omega) e.ref (sorted_fore hso _)
  obtain ⟨sl1, sl2⟩ := sorted_lo q hso e.ref
  rw [sl1] at bs
  generalize lo q (fun x => decide (x < e.ref)) = at_ at *
  obtain ⟨lsn, kind, tx, ptx, ppg, ref, c, blob⟩ := e
  dsimp only at hid c4 bs sl2 c3 h hkk ht
  unfold E.d at c2 ⊢
  dsimp only at c2 ⊢
  unfold noteA
  dsimp only
  by_cases hp : ptx = n
  rotate_left
  · rw [if_pos (.inl hp)]
    refine vcalls_drop (fn := Try.f14) Try.func14 rfl (by kernel_rfl) (by simp [Try.f14]) ?_
    simp (config := { maxSteps := 2000000 }) (implicitDefEqProofs := false) (disch := first | omega | assumption | (simp only []; done) | fail) only [go_sem, ↓reduceIte, Nat.reduceAdd, Nat.reduceBEq, Int.reduceAdd, Int.reduceBEq, Try.f14]
    skip
    repeat' (first
      | (refine vrunG_split (fun hZ => ?_) (fun hZ => ?_) <;> (try rw [hZ]) <;> (try simp only [decide_eq_true_eq, decide_eq_false_iff_not, Bool.or_eq_true, Bool.and_eq_true, Bool.or_eq_false_iff, Bool.and_eq_false_imp, Bool.not_eq_true', Bool.not_eq_false', beq_iff_eq, beq_eq_false_iff_ne, bne_iff_ne, bne_eq_false_iff_eq, ne_eq, Bool.not_eq_eq_eq_not, Bool.not_true, Bool.not_false] at hZ) <;> (try (first | rw [(hZ : _ = false)] | rw [(hZ : _ = true)])) <;> skip)
      | (refine vbr_split (fun hZ => ?_) (fun hZ => ?_) <;> (try rw [hZ]) <;> (try simp only [decide_eq_true_eq, decide_eq_false_iff_not, Bool.or_eq_true, Bool.and_eq_true, Bool.or_eq_false_iff, Bool.and_eq_false_imp, Bool.not_eq_true', Bool.not_eq_false', beq_iff_eq, beq_eq_false_iff_ne, bne_iff_ne, bne_eq_false_iff_eq, ne_eq, Bool.not_eq_eq_eq_not, Bool.not_true, Bool.not_false] at hZ) <;> (try (first | rw [(hZ : _ = false)] | rw [(hZ : _ = true)])) <;> skip)
      | (refine vdrG_split (fun hZ => ?_) (fun hZ => ?_) <;> (try rw [hZ]) <;> (try simp only [decide_eq_true_eq, decide_eq_false_iff_not, Bool.or_eq_true, Bool.and_eq_true, Bool.or_eq_false_iff, Bool.and_eq_false_imp, Bool.not_eq_true', Bool.not_eq_false', beq_iff_eq, beq_eq_false_iff_ne, bne_iff_ne, bne_eq_false_iff_eq, ne_eq, Bool.not_eq_eq_eq_not, Bool.not_true, Bool.not_false] at hZ) <;> (try (first | rw [(hZ : _ = false)] | rw [(hZ : _ = true)])) <;> skip)
      | (refine vc_pure (c1) rfl ?_; (try simp (config := { maxSteps := 2000000 }) (implicitDefEqProofs := false) (disch := first | omega | assumption | (simp only []; done) | fail) only [go_sem, ↓reduceIte, Nat.reduceAdd, Nat.reduceBEq, Int.reduceAdd, Int.reduceBEq]))
      | (refine vc_pure (c2) rfl ?_; (try simp (config := { maxSteps := 2000000 }) (implicitDefEqProofs := false) (disch := first | omega | assumption | (simp only []; done) | fail) only [go_sem, ↓reduceIte, reduceCtorEq, Nat.reduceBEq, Int.reduceBEq]))
      | (refine vc_pure (c3) rfl ?_; (try simp (config := { maxSteps := 2000000 }) (implicitDefEqProofs := false) (disch := first | omega | assumption | (simp only [List.length_cons, List.length_nil, Nat.zero_add, Nat.reduceAdd]; done) | fail) only [go_sem, V.splice, ↓reduceIte, reduceCtorEq, Nat.reduceAdd, Nat.reduceBEq, Int.reduceAdd, Int.reduceBEq, hg]))
      | (refine vc_pure (bs) rfl ?_; (try simp (config := { maxSteps := 2000000 }) (implicitDefEqProofs := false) (disch := first | omega | assumption | (simp only []; done) | fail) only [go_sem, ↓reduceIte, reduceCtorEq, Nat.reduceBEq, Int.reduceBEq]))
      )
    all_goals first | rfl | contradiction | omega
  subst hp
  rcases hkk with rfl | rfl | rfl | rfl | rfl
  · rw [if_neg (by rintro (h | h); exact h rfl; omega), if_neg (by omega)]
    unfold noteT
    rw [if_pos rfl]
    dsimp only
    have hwA := hw i hi ⟨id, 1, lsn, 0, q ++ [lsn], s⟩ (by rw [← h]; exact congrArg _ hid)
    have hwB := hw i hi ⟨id, st, lsn, b, q ++ [lsn], s⟩ (by rw [← h]; exact congrArg _ hid)
    have hl := left_v ⟨id, st, lsn, b, q ++ [lsn], s⟩ ⟨by simp; omega, by simp; omega⟩ b
    unfold settleS
    dsimp only
    generalize leftB ⟨id, st, lsn, b, q ++ [lsn], s⟩ b = B at *
    refine vcalls_drop (fn := Try.f14) Try.func14 rfl (by kernel_rfl) (by simp [Try.f14]) ?_
    simp (config := { maxSteps := 2000000 }) (implicitDefEqProofs := false) (disch := first | omega | assumption | (simp only []; done) | fail) only [go_sem, ↓reduceIte, Nat.reduceAdd, Nat.reduceBEq, Int.reduceAdd, Int.reduceBEq, Try.f14]
    skip
    repeat' (first
      | (refine vrunG_split (fun hZ => ?_) (fun hZ => ?_) <;> (try rw [hZ]) <;> (try simp only [decide_eq_true_eq, decide_eq_false_iff_not, Bool.or_eq_true, Bool.and_eq_true, Bool.or_eq_false_iff, Bool.and_eq_false_imp, Bool.not_eq_true', Bool.not_eq_false', beq_iff_eq, beq_eq_false_iff_ne, bne_iff_ne, bne_eq_false_iff_eq, ne_eq, Bool.not_eq_eq_eq_not, Bool.not_true, Bool.not_false] at hZ) <;> (try (first | rw [(hZ : _ = false)] | rw [(hZ : _ = true)])) <;> (try simp (config := { maxSteps := 2000000 }) (implicitDefEqProofs := false) (disch := first | omega | assumption | (simp only []; done) | fail) only [go_sem, ↓reduceIte, reduceCtorEq, Nat.reduceAdd, Nat.reduceLT, Nat.reduceBEq, Int.reduceLT, Int.reduceAdd, Int.reduceBEq]))
      | (refine vbr_split (fun hZ => ?_) (fun hZ => ?_) <;> (try rw [hZ]) <;> (try simp only [decide_eq_true_eq, decide_eq_false_iff_not, Bool.or_eq_true, Bool.and_eq_true, Bool.or_eq_false_iff, Bool.and_eq_false_imp, Bool.not_eq_true', Bool.not_eq_false', beq_iff_eq, beq_eq_false_iff_ne, bne_iff_ne, bne_eq_false_iff_eq, ne_eq, Bool.not_eq_eq_eq_not, Bool.not_true, Bool.not_false] at hZ) <;> (try (first | rw [(hZ : _ = false)] | rw [(hZ : _ = true)])) <;> (try simp (config := { maxSteps := 2000000 }) (implicitDefEqProofs := false) (disch := first | omega | assumption | (simp only []; done) | fail) only [go_sem, ↓reduceIte, reduceCtorEq, Nat.reduceAdd, Nat.reduceLT, Nat.reduceBEq, Int.reduceLT, Int.reduceAdd, Int.reduceBEq]))
      | (refine vdrG_split (fun hZ => ?_) (fun hZ => ?_) <;> (try rw [hZ]) <;> (try simp only [decide_eq_true_eq, decide_eq_false_iff_not, Bool.or_eq_true, Bool.and_eq_true, Bool.or_eq_false_iff, Bool.and_eq_false_imp, Bool.not_eq_true', Bool.not_eq_false', beq_iff_eq, beq_eq_false_iff_ne, bne_iff_ne, bne_eq_false_iff_eq, ne_eq, Bool.not_eq_eq_eq_not, Bool.not_true, Bool.not_false] at hZ) <;> (try (first | rw [(hZ : _ = false)] | rw [(hZ : _ = true)])) <;> skip)
      | (refine vc_giveA [3] _ _ (hwA) rfl ⟨⟨by simp, cells_nums _ _ _⟩, trivial⟩ (by decide) rfl (by simp [DV.nums.go, DV.nums]) ?_ ?_; (focus (simp (config := { maxSteps := 2000000 }) (implicitDefEqProofs := false) (disch := first | omega | assumption | (simp only [List.length_append, List.length_cons, List.length_nil] <;> omega) | fail) only [go_sem, ↓reduceIte, DV.ren, DV.ren.go, List.idxOf_cons, List.getD_cons_succ, List.getD_cons_zero, Tx.d, frzI]; done)); (try simp (config := { maxSteps := 2000000 }) (implicitDefEqProofs := false) (disch := first | omega | assumption | (simp only []; done) | fail) only [go_sem, Nat.reduceBEq, Int.reduceBEq]))
      | (refine vc_giveA [3] _ _ (hwB) rfl ⟨⟨by simp, cells_nums _ _ _⟩, trivial⟩ (by decide) rfl (by simp [DV.nums.go, DV.nums]) ?_ ?_; (focus (simp (config := { maxSteps := 2000000 }) (implicitDefEqProofs := false) (disch := first | omega | assumption | (simp only [List.length_append, List.length_cons, List.length_nil] <;> omega) | fail) only [go_sem, ↓reduceIte, DV.ren, DV.ren.go, List.idxOf_cons, List.getD_cons_succ, List.getD_cons_zero, Tx.d, frzI]; done)); (try simp (config := { maxSteps := 2000000 }) (implicitDefEqProofs := false) (disch := first | omega | assumption | (simp only []; done) | fail) only [go_sem, Nat.reduceBEq, Int.reduceBEq]))
      | (refine vc_pure (c1) rfl ?_; (try simp (config := { maxSteps := 2000000 }) (implicitDefEqProofs := false) (disch := first | omega | assumption | (simp only []; done) | fail) only [go_sem, ↓reduceIte, Nat.reduceAdd, Nat.reduceBEq, Int.reduceAdd, Int.reduceBEq]))
      | (refine vc_pure (c2) rfl ?_; (try simp (config := { maxSteps := 2000000 }) (implicitDefEqProofs := false) (disch := first | omega | assumption | (simp only []; done) | fail) only [go_sem, ↓reduceIte, reduceCtorEq, Nat.reduceBEq, Int.reduceBEq]))
      | (refine vc_pure (c3) rfl ?_; (try simp (config := { maxSteps := 2000000 }) (implicitDefEqProofs := false) (disch := first | omega | assumption | (simp only [List.length_cons, List.length_nil, Nat.zero_add, Nat.reduceAdd]; done) | fail) only [go_sem, V.splice, ↓reduceIte, reduceCtorEq, Nat.reduceAdd, Nat.reduceBEq, Int.reduceAdd, Int.reduceBEq, hg]))
      | (refine vc_pure (bs) rfl ?_; (try simp (config := { maxSteps := 2000000 }) (implicitDefEqProofs := false) (disch := first | omega | assumption | (simp only []; done) | fail) only [go_sem, ↓reduceIte, reduceCtorEq, Nat.reduceAdd, Nat.reduceBEq, Int.reduceAdd, Int.reduceBEq]))
      | (refine vc_pure (clipI_v q) rfl ?_; (try simp (config := { maxSteps := 2000000 }) (implicitDefEqProofs := false) (disch := first | omega | assumption | (simp only []; done) | fail) only [go_sem, V.splice, V.mk, ↓reduceIte, reduceCtorEq, Nat.reduceAdd, Nat.reduceLT, Nat.reduceLeDiff, Nat.reduceBEq, Int.reduceLT, Int.reduceAdd, Int.reduceBEq, srcI, mem_ok, app_I]))
      | (refine vc_lendA (hl) ?_ rfl ?_; (focus (simp (config := { maxSteps := 2000000 }) (implicitDefEqProofs := false) (disch := first | omega | assumption | (simp only [List.length_append, List.length_cons, List.length_nil] <;> omega) | fail) only [go_sem, ↓reduceIte, Nat.reduceLT, Int.reduceLT, Tx.d, frzI]; done)); (try simp (config := { maxSteps := 2000000 }) (implicitDefEqProofs := false) (disch := first | omega | assumption | (simp only []; done) | fail) only [go_sem, Nat.reduceBEq, Int.reduceBEq]))
      | (refine vspine (id := 17) [0, 1, 3, 4] [⟨[5], [], 2, [0, 3, 4], []⟩, ⟨[5], [5], 6, [0, 1, 3, 4], [7]⟩, ⟨[], [], 8, [], []⟩] (by kernel_rfl) (by kernel_rfl) ?_; (try simp (config := { maxSteps := 2000000 }) (implicitDefEqProofs := false) (disch := first | omega | assumption | (simp only []; done) | fail) only [go_sem, V.splice, V.mk, ↓reduceIte, reduceCtorEq, Nat.reduceLT, Nat.reduceLeDiff, Nat.reduceBEq, Int.reduceLT, Int.reduceBEq]))
      )
    all_goals first | rfl | (rw [if_pos (by first | assumption | omega)]; rfl) | (rw [if_neg (by omega)]; rfl)
  · by_cases hm : ref ∈ q
    rotate_left
    · rw [if_pos (.inr ⟨rfl, hm⟩)]
      rw [decide_eq_false hm] at bs
      refine vcalls_drop (fn := Try.f14) Try.func14 rfl (by kernel_rfl) (by simp [Try.f14]) ?_
      simp (config := { maxSteps := 2000000 }) (implicitDefEqProofs := false) (disch := first | omega | assumption | (simp only []; done) | fail) only [go_sem, ↓reduceIte, Nat.reduceAdd, Nat.reduceBEq, Int.reduceAdd, Int.reduceBEq, Try.f14]
      skip
      repeat' (first
        | (refine vrunG_split (fun hZ => ?_) (fun hZ => ?_) <;> (try rw [hZ]) <;> (try simp only [decide_eq_true_eq, decide_eq_false_iff_not, Bool.or_eq_true, Bool.and_eq_true, Bool.or_eq_false_iff, Bool.and_eq_false_imp, Bool.not_eq_true', Bool.not_eq_false', beq_iff_eq, beq_eq_false_iff_ne, bne_iff_ne, bne_eq_false_iff_eq, ne_eq, Bool.not_eq_eq_eq_not, Bool.not_true, Bool.not_false] at hZ) <;> (try (first | rw [(hZ : _ = false)] | rw [(hZ : _ = true)])) <;> skip)
        | (refine vbr_split (fun hZ => ?_) (fun hZ => ?_) <;> (try rw [hZ]) <;> (try simp only [decide_eq_true_eq, decide_eq_false_iff_not, Bool.or_eq_true, Bool.and_eq_true, Bool.or_eq_false_iff, Bool.and_eq_false_imp, Bool.not_eq_true', Bool.not_eq_false', beq_iff_eq, beq_eq_false_iff_ne, bne_iff_ne, bne_eq_false_iff_eq, ne_eq, Bool.not_eq_eq_eq_not, Bool.not_true, Bool.not_false] at hZ) <;> (try (first | rw [(hZ : _ = false)] | rw [(hZ : _ = true)])) <;> skip)
        | (refine vdrG_split (fun hZ => ?_) (fun hZ => ?_) <;> (try rw [hZ]) <;> (try simp only [decide_eq_true_eq, decide_eq_false_iff_not, Bool.or_eq_true, Bool.and_eq_true, Bool.or_eq_false_iff, Bool.and_eq_false_imp, Bool.not_eq_true', Bool.not_eq_false', beq_iff_eq, beq_eq_false_iff_ne, bne_iff_ne, bne_eq_false_iff_eq, ne_eq, Bool.not_eq_eq_eq_not, Bool.not_true, Bool.not_false] at hZ) <;> (try (first | rw [(hZ : _ = false)] | rw [(hZ : _ = true)])) <;> skip)
        | (refine vc_pure (c1) rfl ?_; (try simp (config := { maxSteps := 2000000 }) (implicitDefEqProofs := false) (disch := first | omega | assumption | (simp only []; done) | fail) only [go_sem, ↓reduceIte, Nat.reduceAdd, Nat.reduceBEq, Int.reduceAdd, Int.reduceBEq]))
        | (refine vc_pure (c2) rfl ?_; (try simp (config := { maxSteps := 2000000 }) (implicitDefEqProofs := false) (disch := first | omega | assumption | (simp only []; done) | fail) only [go_sem, ↓reduceIte, reduceCtorEq, Nat.reduceBEq, Int.reduceBEq]))
        | (refine vc_pure (c3) rfl ?_; (try simp (config := { maxSteps := 2000000 }) (implicitDefEqProofs := false) (disch := first | omega | assumption | (simp only [List.length_cons, List.length_nil, Nat.zero_add, Nat.reduceAdd]; done) | fail) only [go_sem, V.splice, ↓reduceIte, reduceCtorEq, Nat.reduceAdd, Nat.reduceBEq, Int.reduceAdd, Int.reduceBEq, hg]))
        | (refine vc_pure (bs) rfl ?_; (try simp (config := { maxSteps := 2000000 }) (implicitDefEqProofs := false) (disch := first | omega | assumption | (simp only []; done) | fail) only [go_sem, ↓reduceIte, reduceCtorEq, Nat.reduceBEq, Int.reduceBEq]))
        )
      all_goals first | rfl | contradiction | omega
    rw [if_neg (by rintro (h | h); exact h rfl; exact h.2 hm), if_neg (by omega)]
    rw [decide_eq_true hm] at bs
    obtain ⟨sl3, sl4⟩ := sl2 hm
    unfold noteT
    rw [if_neg (by dsimp only; omega), if_pos rfl]
    dsimp only
    rw [← sl4]
    have hlen : (q.take at_ ++ q.drop (at_ + 1)).length = q.length - 1 := del_len q at_ sl3
    have hwA := hw i hi ⟨id, 1, lsn, 0, q.take at_ ++ q.drop (at_ + 1), s⟩ (by rw [← h]; exact congrArg _ hid)
    have hwB := hw i hi ⟨id, st, lsn, b, q.take at_ ++ q.drop (at_ + 1), s⟩ (by rw [← h]; exact congrArg _ hid)
    have hl := left_v ⟨id, st, lsn, b, q.take at_ ++ q.drop (at_ + 1), s⟩ ⟨by show (q.take at_ ++ q.drop (at_ + 1)).length ≤ _; omega, by show s.length ≤ _; omega⟩ b
    have hd := deleteI_v q at_ sl3 (by omega)
    unfold settleS
    dsimp only
    generalize q.take at_ ++ q.drop (at_ + 1) = qq at *
    generalize leftB ⟨id, st, lsn, b, qq, s⟩ b = B at *
    refine vcalls_drop (fn := Try.f14) Try.func14 rfl (by kernel_rfl) (by simp [Try.f14]) ?_
    simp (config := { maxSteps := 2000000 }) (implicitDefEqProofs := false) (disch := first | omega | assumption | (simp only []; done) | fail) only [go_sem, ↓reduceIte, Nat.reduceAdd, Nat.reduceBEq, Int.reduceAdd, Int.reduceBEq, Try.f14]
    skip
    repeat' (first
      | (refine vrunG_split (fun hZ => ?_) (fun hZ => ?_) <;> (try rw [hZ]) <;> (try simp only [decide_eq_true_eq, decide_eq_false_iff_not, Bool.or_eq_true, Bool.and_eq_true, Bool.or_eq_false_iff, Bool.and_eq_false_imp, Bool.not_eq_true', Bool.not_eq_false', beq_iff_eq, beq_eq_false_iff_ne, bne_iff_ne, bne_eq_false_iff_eq, ne_eq, Bool.not_eq_eq_eq_not, Bool.not_true, Bool.not_false] at hZ) <;> (try (first | rw [(hZ : _ = false)] | rw [(hZ : _ = true)])) <;> (try simp (config := { maxSteps := 2000000 }) (implicitDefEqProofs := false) (disch := first | omega | assumption | (simp only []; done) | fail) only [go_sem, ↓reduceIte, reduceCtorEq, Nat.reduceAdd, Nat.reduceLT, Nat.reduceBEq, Int.reduceLT, Int.reduceAdd, Int.reduceBEq]))
      | (refine vbr_split (fun hZ => ?_) (fun hZ => ?_) <;> (try rw [hZ]) <;> (try simp only [decide_eq_true_eq, decide_eq_false_iff_not, Bool.or_eq_true, Bool.and_eq_true, Bool.or_eq_false_iff, Bool.and_eq_false_imp, Bool.not_eq_true', Bool.not_eq_false', beq_iff_eq, beq_eq_false_iff_ne, bne_iff_ne, bne_eq_false_iff_eq, ne_eq, Bool.not_eq_eq_eq_not, Bool.not_true, Bool.not_false] at hZ) <;> (try (first | rw [(hZ : _ = false)] | rw [(hZ : _ = true)])) <;> (try simp (config := { maxSteps := 2000000 }) (implicitDefEqProofs := false) (disch := first | omega | assumption | (simp only []; done) | fail) only [go_sem, ↓reduceIte, reduceCtorEq, Nat.reduceAdd, Nat.reduceLT, Nat.reduceBEq, Int.reduceLT, Int.reduceAdd, Int.reduceBEq]))
      | (refine vdrG_split (fun hZ => ?_) (fun hZ => ?_) <;> (try rw [hZ]) <;> (try simp only [decide_eq_true_eq, decide_eq_false_iff_not, Bool.or_eq_true, Bool.and_eq_true, Bool.or_eq_false_iff, Bool.and_eq_false_imp, Bool.not_eq_true', Bool.not_eq_false', beq_iff_eq, beq_eq_false_iff_ne, bne_iff_ne, bne_eq_false_iff_eq, ne_eq, Bool.not_eq_eq_eq_not, Bool.not_true, Bool.not_false] at hZ) <;> (try (first | rw [(hZ : _ = false)] | rw [(hZ : _ = true)])) <;> skip)
      | (refine vc_new0 (cloneI_v q (by omega)) rfl (cells_nums _ _ _) ?_; (try simp (config := { maxSteps := 2000000 }) (implicitDefEqProofs := false) (disch := first | omega | assumption | (simp only []; done) | fail) only [go_sem, Nat.reduceAdd, Nat.reduceBEq, Int.reduceAdd, Int.reduceBEq]))
      | (refine vc_newP [2] [2] (hd) rfl ⟨⟨by simp, cells_nums _ _ _⟩, trivial⟩ (by decide) rfl rfl rfl (cells_nums _ _ _) ?_; (try simp (config := { maxSteps := 2000000 }) (implicitDefEqProofs := false) (disch := first | omega | assumption | (simp only []; done) | fail) only [go_sem, ↓reduceIte, reduceCtorEq, Nat.reduceAdd, Nat.reduceBEq, Int.reduceAdd, Int.reduceBEq]))
      | (refine vc_giveA [3] _ _ (hwA) rfl ⟨⟨by simp, cells_nums _ _ _⟩, trivial⟩ (by decide) rfl (by simp [DV.nums.go, DV.nums]) ?_ ?_; (focus (simp (config := { maxSteps := 2000000 }) (implicitDefEqProofs := false) (disch := first | omega | assumption) only [go_sem, ↓reduceIte, DV.ren, DV.ren.go, List.idxOf_cons, List.getD_cons_succ, List.getD_cons_zero, Tx.d, frzI]; done)); (try simp (config := { maxSteps := 2000000 }) (implicitDefEqProofs := false) (disch := first | omega | assumption | (simp only []; done) | fail) only [go_sem, Nat.reduceBEq, Int.reduceBEq]))
      | (refine vc_giveA [3] _ _ (hwB) rfl ⟨⟨by simp, cells_nums _ _ _⟩, trivial⟩ (by decide) rfl (by simp [DV.nums.go, DV.nums]) ?_ ?_; (focus (simp (config := { maxSteps := 2000000 }) (implicitDefEqProofs := false) (disch := first | omega | assumption) only [go_sem, ↓reduceIte, DV.ren, DV.ren.go, List.idxOf_cons, List.getD_cons_succ, List.getD_cons_zero, Tx.d, frzI]; done)); (try simp (config := { maxSteps := 2000000 }) (implicitDefEqProofs := false) (disch := first | omega | assumption | (simp only []; done) | fail) only [go_sem, Nat.reduceBEq, Int.reduceBEq]))
      | (refine vc_pure (c1) rfl ?_; (try simp (config := { maxSteps := 2000000 }) (implicitDefEqProofs := false) (disch := first | omega | assumption | (simp only []; done) | fail) only [go_sem, ↓reduceIte, Nat.reduceAdd, Nat.reduceBEq, Int.reduceAdd, Int.reduceBEq]))
      | (refine vc_pure (c2) rfl ?_; (try simp (config := { maxSteps := 2000000 }) (implicitDefEqProofs := false) (disch := first | omega | assumption | (simp only []; done) | fail) only [go_sem, ↓reduceIte, reduceCtorEq, Nat.reduceBEq, Int.reduceBEq]))
      | (refine vc_pure (c3) rfl ?_; (try simp (config := { maxSteps := 2000000 }) (implicitDefEqProofs := false) (disch := first | omega | assumption | (simp only [List.length_cons, List.length_nil, Nat.zero_add, Nat.reduceAdd]; done) | fail) only [go_sem, V.splice, ↓reduceIte, reduceCtorEq, Nat.reduceAdd, Nat.reduceBEq, Int.reduceAdd, Int.reduceBEq, hg]))
      | (refine vc_pure (bs) rfl ?_; (try simp (config := { maxSteps := 2000000 }) (implicitDefEqProofs := false) (disch := first | omega | assumption | (simp only []; done) | fail) only [go_sem, ↓reduceIte, reduceCtorEq, Nat.reduceAdd, Nat.reduceBEq, Int.reduceAdd, Int.reduceBEq]))
      | (refine vc_lendA (hl) ?_ rfl ?_; (focus (simp (config := { maxSteps := 2000000 }) (implicitDefEqProofs := false) (disch := first | omega | assumption) only [go_sem, ↓reduceIte, Nat.reduceLT, Int.reduceLT, Tx.d, frzI]; done)); (try simp (config := { maxSteps := 2000000 }) (implicitDefEqProofs := false) (disch := first | omega | assumption | (simp only []; done) | fail) only [go_sem, Nat.reduceBEq, Int.reduceBEq]))
      )
    all_goals first | rfl | (rw [if_pos (by first | assumption | omega)]; rfl) | (rw [if_neg (by omega)]; rfl)
  · rw [if_neg (by rintro (h | h); exact h rfl; omega), if_pos (by omega)]
    refine vcalls_drop (fn := Try.f14) Try.func14 rfl (by kernel_rfl) (by simp [Try.f14]) ?_
    simp (config := { maxSteps := 2000000 }) (implicitDefEqProofs := false) (disch := first | omega | assumption | (simp only []; done) | fail) only [go_sem, ↓reduceIte, Nat.reduceAdd, Nat.reduceBEq, Int.reduceAdd, Int.reduceBEq, Try.f14]
    skip
    repeat' (first
      | (refine vrunG_split (fun hZ => ?_) (fun hZ => ?_) <;> (try rw [hZ]) <;> (try simp only [decide_eq_true_eq, decide_eq_false_iff_not, Bool.or_eq_true, Bool.and_eq_true, Bool.or_eq_false_iff, Bool.and_eq_false_imp, Bool.not_eq_true', Bool.not_eq_false', beq_iff_eq, beq_eq_false_iff_ne, bne_iff_ne, bne_eq_false_iff_eq, ne_eq, Bool.not_eq_eq_eq_not, Bool.not_true, Bool.not_false] at hZ) <;> (try (first | rw [(hZ : _ = false)] | rw [(hZ : _ = true)])) <;> skip)
      | (refine vbr_split (fun hZ => ?_) (fun hZ => ?_) <;> (try rw [hZ]) <;> (try simp only [decide_eq_true_eq, decide_eq_false_iff_not, Bool.or_eq_true, Bool.and_eq_true, Bool.or_eq_false_iff, Bool.and_eq_false_imp, Bool.not_eq_true', Bool.not_eq_false', beq_iff_eq, beq_eq_false_iff_ne, bne_iff_ne, bne_eq_false_iff_eq, ne_eq, Bool.not_eq_eq_eq_not, Bool.not_true, Bool.not_false] at hZ) <;> (try (first | rw [(hZ : _ = false)] | rw [(hZ : _ = true)])) <;> skip)
      | (refine vdrG_split (fun hZ => ?_) (fun hZ => ?_) <;> (try rw [hZ]) <;> (try simp only [decide_eq_true_eq, decide_eq_false_iff_not, Bool.or_eq_true, Bool.and_eq_true, Bool.or_eq_false_iff, Bool.and_eq_false_imp, Bool.not_eq_true', Bool.not_eq_false', beq_iff_eq, beq_eq_false_iff_ne, bne_iff_ne, bne_eq_false_iff_eq, ne_eq, Bool.not_eq_eq_eq_not, Bool.not_true, Bool.not_false] at hZ) <;> (try (first | rw [(hZ : _ = false)] | rw [(hZ : _ = true)])) <;> skip)
      | (refine vc_pure (c1) rfl ?_; (try simp (config := { maxSteps := 2000000 }) (implicitDefEqProofs := false) (disch := first | omega | assumption | (simp only []; done) | fail) only [go_sem, ↓reduceIte, Nat.reduceAdd, Nat.reduceBEq, Int.reduceAdd, Int.reduceBEq]))
      | (refine vc_pure (c2) rfl ?_; (try simp (config := { maxSteps := 2000000 }) (implicitDefEqProofs := false) (disch := first | omega | assumption | (simp only []; done) | fail) only [go_sem, ↓reduceIte, reduceCtorEq, Nat.reduceBEq, Int.reduceBEq]))
      | (refine vc_pure (c3) rfl ?_; (try simp (config := { maxSteps := 2000000 }) (implicitDefEqProofs := false) (disch := first | omega | assumption | (simp only [List.length_cons, List.length_nil, Nat.zero_add, Nat.reduceAdd]; done) | fail) only [go_sem, V.splice, ↓reduceIte, reduceCtorEq, Nat.reduceAdd, Nat.reduceBEq, Int.reduceAdd, Int.reduceBEq, hg]))
      | (refine vc_pure (bs) rfl ?_; (try simp (config := { maxSteps := 2000000 }) (implicitDefEqProofs := false) (disch := first | omega | assumption | (simp only []; done) | fail) only [go_sem, ↓reduceIte, reduceCtorEq, Nat.reduceAdd, Nat.reduceBEq, Int.reduceAdd, Int.reduceBEq]))
      | (refine vc_pure (c4) rfl ?_; (try simp (config := { maxSteps := 2000000 }) (implicitDefEqProofs := false) (disch := first | omega | assumption | (simp only []; done) | fail) only [go_sem, Nat.reduceBEq, Int.reduceBEq]))
      )
    all_goals rfl
  · rw [if_neg (by rintro (h | h); exact h rfl; omega), if_neg (by omega)]
    unfold noteT
    rw [if_neg (by dsimp only; omega), if_neg (by dsimp only; omega)]
    dsimp only
    have hwA := hw i hi ⟨id, 3, lsn, 0, q, []⟩ (by rw [← h]; exact congrArg _ hid)
    have hwB : VCalls Try.prog 42 [.pv (.sl (fz encT l)), .agg [.int .i64 id, .int .i64 3, .int .i64 lsn, .int .i64 0, .pv (.sl (fz encI q)), .pv (.slc [])]] [] (Ret (.pv (.sl (fz encT (l.set i ⟨id, 3, lsn, 0, q, []⟩))))) := VCalls.wkA hwA
    unfold settleS
    dsimp only
    rw [if_neg (by omega)]
    refine vcalls_drop (fn := Try.f14) Try.func14 rfl (by kernel_rfl) (by simp [Try.f14]) ?_
    simp (config := { maxSteps := 2000000 }) (implicitDefEqProofs := false) (disch := first | omega | assumption | (simp only []; done) | fail) only [go_sem, ↓reduceIte, Nat.reduceAdd, Nat.reduceBEq, Int.reduceAdd, Int.reduceBEq, Try.f14]
    skip
    repeat' (first
      | (refine vrunG_split (fun hZ => ?_) (fun hZ => ?_) <;> (try rw [hZ]) <;> (try simp only [decide_eq_true_eq, decide_eq_false_iff_not, Bool.or_eq_true, Bool.and_eq_true, Bool.or_eq_false_iff, Bool.and_eq_false_imp, Bool.not_eq_true', Bool.not_eq_false', beq_iff_eq, beq_eq_false_iff_ne, bne_iff_ne, bne_eq_false_iff_eq, ne_eq, Bool.not_eq_eq_eq_not, Bool.not_true, Bool.not_false] at hZ) <;> (try (first | rw [(hZ : _ = false)] | rw [(hZ : _ = true)])) <;> skip)
      | (refine vbr_split (fun hZ => ?_) (fun hZ => ?_) <;> (try rw [hZ]) <;> (try simp only [decide_eq_true_eq, decide_eq_false_iff_not, Bool.or_eq_true, Bool.and_eq_true, Bool.or_eq_false_iff, Bool.and_eq_false_imp, Bool.not_eq_true', Bool.not_eq_false', beq_iff_eq, beq_eq_false_iff_ne, bne_iff_ne, bne_eq_false_iff_eq, ne_eq, Bool.not_eq_eq_eq_not, Bool.not_true, Bool.not_false] at hZ) <;> (try (first | rw [(hZ : _ = false)] | rw [(hZ : _ = true)])) <;> skip)
      | (refine vdrG_split (fun hZ => ?_) (fun hZ => ?_) <;> (try rw [hZ]) <;> (try simp only [decide_eq_true_eq, decide_eq_false_iff_not, Bool.or_eq_true, Bool.and_eq_true, Bool.or_eq_false_iff, Bool.and_eq_false_imp, Bool.not_eq_true', Bool.not_eq_false', beq_iff_eq, beq_eq_false_iff_ne, bne_iff_ne, bne_eq_false_iff_eq, ne_eq, Bool.not_eq_eq_eq_not, Bool.not_true, Bool.not_false] at hZ) <;> (try (first | rw [(hZ : _ = false)] | rw [(hZ : _ = true)])) <;> skip)
      | (refine vc_pure (c1) rfl ?_; (try simp (config := { maxSteps := 2000000 }) (implicitDefEqProofs := false) (disch := first | omega | assumption | (simp only []; done) | fail) only [go_sem, ↓reduceIte, Nat.reduceAdd, Nat.reduceBEq, Int.reduceAdd, Int.reduceBEq]))
      | (refine vc_pure (c2) rfl ?_; (try simp (config := { maxSteps := 2000000 }) (implicitDefEqProofs := false) (disch := first | omega | assumption | (simp only []; done) | fail) only [go_sem, ↓reduceIte, reduceCtorEq, Nat.reduceBEq, Int.reduceBEq]))
      | (refine vc_pure (c3) rfl ?_; (try simp (config := { maxSteps := 2000000 }) (implicitDefEqProofs := false) (disch := first | omega | assumption | (simp only [List.length_cons, List.length_nil, Nat.zero_add, Nat.reduceAdd]; done) | fail) only [go_sem, V.splice, ↓reduceIte, reduceCtorEq, Nat.reduceAdd, Nat.reduceBEq, Int.reduceAdd, Int.reduceBEq, hg]))
      | (refine vc_pure (bs) rfl ?_; (try simp (config := { maxSteps := 2000000 }) (implicitDefEqProofs := false) (disch := first | omega | assumption | (simp only []; done) | fail) only [go_sem, ↓reduceIte, reduceCtorEq, Nat.reduceAdd, Nat.reduceLT, Nat.reduceBEq, Int.reduceLT, Int.reduceAdd, Int.reduceBEq]))
      | (refine vc_pure (hwB) rfl ?_; (try simp (config := { maxSteps := 2000000 }) (implicitDefEqProofs := false) (disch := first | omega | assumption | (simp only []; done) | fail) only [go_sem, Nat.reduceBEq, Int.reduceBEq]))
      )
    all_goals rfl
  · rw [if_neg (by rintro (h | h); exact h rfl; omega), if_pos (by omega)]
    refine vcalls_drop (fn := Try.f14) Try.func14 rfl (by kernel_rfl) (by simp [Try.f14]) ?_
    simp (config := { maxSteps := 2000000 }) (implicitDefEqProofs := false) (disch := first | omega | assumption | (simp only []; done) | fail) only [go_sem, ↓reduceIte, Nat.reduceAdd, Nat.reduceBEq, Int.reduceAdd, Int.reduceBEq, Try.f14]
    skip
    repeat' (first
      | (refine vrunG_split (fun hZ => ?_) (fun hZ => ?_) <;> (try rw [hZ]) <;> (try simp only [decide_eq_true_eq, decide_eq_false_iff_not, Bool.or_eq_true, Bool.and_eq_true, Bool.or_eq_false_iff, Bool.and_eq_false_imp, Bool.not_eq_true', Bool.not_eq_false', beq_iff_eq, beq_eq_false_iff_ne, bne_iff_ne, bne_eq_false_iff_eq, ne_eq, Bool.not_eq_eq_eq_not, Bool.not_true, Bool.not_false] at hZ) <;> (try (first | rw [(hZ : _ = false)] | rw [(hZ : _ = true)])) <;> skip)
      | (refine vbr_split (fun hZ => ?_) (fun hZ => ?_) <;> (try rw [hZ]) <;> (try simp only [decide_eq_true_eq, decide_eq_false_iff_not, Bool.or_eq_true, Bool.and_eq_true, Bool.or_eq_false_iff, Bool.and_eq_false_imp, Bool.not_eq_true', Bool.not_eq_false', beq_iff_eq, beq_eq_false_iff_ne, bne_iff_ne, bne_eq_false_iff_eq, ne_eq, Bool.not_eq_eq_eq_not, Bool.not_true, Bool.not_false] at hZ) <;> (try (first | rw [(hZ : _ = false)] | rw [(hZ : _ = true)])) <;> skip)
      | (refine vdrG_split (fun hZ => ?_) (fun hZ => ?_) <;> (try rw [hZ]) <;> (try simp only [decide_eq_true_eq, decide_eq_false_iff_not, Bool.or_eq_true, Bool.and_eq_true, Bool.or_eq_false_iff, Bool.and_eq_false_imp, Bool.not_eq_true', Bool.not_eq_false', beq_iff_eq, beq_eq_false_iff_ne, bne_iff_ne, bne_eq_false_iff_eq, ne_eq, Bool.not_eq_eq_eq_not, Bool.not_true, Bool.not_false] at hZ) <;> (try (first | rw [(hZ : _ = false)] | rw [(hZ : _ = true)])) <;> skip)
      | (refine vc_pure (c1) rfl ?_; (try simp (config := { maxSteps := 2000000 }) (implicitDefEqProofs := false) (disch := first | omega | assumption | (simp only []; done) | fail) only [go_sem, ↓reduceIte, Nat.reduceAdd, Nat.reduceBEq, Int.reduceAdd, Int.reduceBEq]))
      | (refine vc_pure (c2) rfl ?_; (try simp (config := { maxSteps := 2000000 }) (implicitDefEqProofs := false) (disch := first | omega | assumption | (simp only []; done) | fail) only [go_sem, ↓reduceIte, reduceCtorEq, Nat.reduceBEq, Int.reduceBEq]))
      | (refine vc_pure (c3) rfl ?_; (try simp (config := { maxSteps := 2000000 }) (implicitDefEqProofs := false) (disch := first | omega | assumption | (simp only [List.length_cons, List.length_nil, Nat.zero_add, Nat.reduceAdd]; done) | fail) only [go_sem, V.splice, ↓reduceIte, reduceCtorEq, Nat.reduceAdd, Nat.reduceBEq, Int.reduceAdd, Int.reduceBEq, hg]))
      | (refine vc_pure (bs) rfl ?_; (try simp (config := { maxSteps := 2000000 }) (implicitDefEqProofs := false) (disch := first | omega | assumption | (simp only []; done) | fail) only [go_sem, ↓reduceIte, reduceCtorEq, Nat.reduceAdd, Nat.reduceBEq, Int.reduceAdd, Int.reduceBEq]))
      | (refine vc_pure (c4) rfl ?_; (try simp (config := { maxSteps := 2000000 }) (implicitDefEqProofs := false) (disch := first | omega | assumption | (simp only []; done) | fail) only [go_sem, Nat.reduceBEq, Int.reduceBEq]))
      )
    all_goals rfl
end Go.Proofs.Ytkbahhackcnnbaa

namespace Go.Proofs.Ytkbahhackcnnbaa
open Go.V Go
set_option maxRecDepth 100000
set_option pp.deepTerms true
set_option pp.deepTerms.threshold 100000
set_option pp.maxSteps 1000000
set_option pp.proofs false
set_option linter.unusedSimpArgs false

theorem rfind0_v (l : List Tx) (hl : l.length ≤ 1000000) (a : Int) : VCalls Try.prog 44 [.pv (.sl (fz encT l)), .int .i64 a] [] (Ret (.int .i64 (idT l a))) := by
  refine vcalls_drop (fn := Try.f44) Try.func44 rfl (by kernel_rfl) (by simp [Try.f44]) ?_
  simp (config := { maxSteps := 2000000 }) (implicitDefEqProofs := false) (disch := first | omega | assumption | (simp only []; done) | fail) only [go_sem, Nat.reduceAdd, Int.reduceNeg, Int.reduceAdd, Try.f44]
  refine vloopW (fun i : Pass l (fun x => (x.id == a) = true) => ⟨20, 0, [(5, .int .i64 i.i), (0, .pv (.sl (fz encT l))), (1, .int .i64 a)], []⟩) (fun i => l.length - i.i) (Pass.start l _) (by refine gc_of (keep := []) rfl rfl rfl (by decide) ?_ ?_ <;> (repeat' apply And.intro) <;> first | trivial | rfl | exact ⟨_, rfl, rfl, rfl, .inl ⟨rfl, rfl⟩⟩ | exact ⟨_, rfl, rfl, rfl, .inl ⟨cells_nums _ _ _, rfl⟩⟩ | exact ⟨_, rfl, rfl, rfl, .inl ⟨pvs_nums _ _, rfl⟩⟩ | exact ⟨_, rfl, rfl, rfl, .inr ⟨rfl, rfl⟩⟩) ?_
  intro i
  have hi := i.hi
  have hg := fun h : i.i < l.length => fzT_at l i.i h
  (try simp (config := { maxSteps := 2000000 }) (implicitDefEqProofs := false) (disch := first | omega | assumption | (simp only []; done) | fail) only [go_sem, Nat.reduceBEq, Int.reduceNeg, Int.reduceBEq])
  repeat' (first
    | (refine vrunG_split (fun hZ => ?_) (fun hZ => ?_) <;> (try rw [hZ]) <;> (try simp only [decide_eq_true_eq, decide_eq_false_iff_not, Bool.or_eq_true, Bool.and_eq_true, Bool.or_eq_false_iff, Bool.and_eq_false_imp, Bool.not_eq_true', Bool.not_eq_false', beq_iff_eq, beq_eq_false_iff_ne, bne_iff_ne, bne_eq_false_iff_eq, ne_eq, Bool.not_eq_eq_eq_not, Bool.not_true, Bool.not_false] at hZ) <;> (try (first | rw [(hZ : _ = false)] | rw [(hZ : _ = true)])) <;> skip)
    | (refine vbr_split (fun hZ => ?_) (fun hZ => ?_) <;> (try rw [hZ]) <;> (try simp only [decide_eq_true_eq, decide_eq_false_iff_not, Bool.or_eq_true, Bool.and_eq_true, Bool.or_eq_false_iff, Bool.and_eq_false_imp, Bool.not_eq_true', Bool.not_eq_false', beq_iff_eq, beq_eq_false_iff_ne, bne_iff_ne, bne_eq_false_iff_eq, ne_eq, Bool.not_eq_eq_eq_not, Bool.not_true, Bool.not_false] at hZ) <;> (try (first | rw [(hZ : _ = false)] | rw [(hZ : _ = true)])) <;> (try simp (config := { maxSteps := 2000000 }) (implicitDefEqProofs := false) (disch := first | omega | assumption | (simp only [List.length_cons, List.length_nil, Nat.zero_add, Nat.reduceAdd]; done) | fail) only [go_sem, ↓reduceIte, reduceCtorEq, Nat.reduceLT, Nat.reduceBEq, Int.reduceLT, Int.reduceNeg, Int.reduceBEq, hg]))
    | (refine vdrG_split (fun hZ => ?_) (fun hZ => ?_) <;> (try rw [hZ]) <;> (try simp only [decide_eq_true_eq, decide_eq_false_iff_not, Bool.or_eq_true, Bool.and_eq_true, Bool.or_eq_false_iff, Bool.and_eq_false_imp, Bool.not_eq_true', Bool.not_eq_false', beq_iff_eq, beq_eq_false_iff_ne, bne_iff_ne, bne_eq_false_iff_eq, ne_eq, Bool.not_eq_eq_eq_not, Bool.not_true, Bool.not_false] at hZ) <;> (try (first | rw [(hZ : _ = false)] | rw [(hZ : _ = true)])) <;> skip)
    )
  · have := idxP_at l (fun x => x.id == a) i.i (by omega) (by simpa using (by assumption : l[i.i].id = a)) i.no
    rw [idT, this]
  · exact ⟨i.next (by omega) (by simpa using (by assumption : ¬ l[i.i].id = a)), by show l.length - (i.i + 1) < l.length - i.i; omega, (by refine gc_of (keep := []) rfl rfl rfl (by decide) ?_ ?_ <;> (repeat' apply And.intro) <;> first | trivial | rfl | exact ⟨_, rfl, rfl, rfl, .inl ⟨rfl, rfl⟩⟩ | exact ⟨_, rfl, rfl, rfl, .inl ⟨cells_nums _ _ _, rfl⟩⟩ | exact ⟨_, rfl, rfl, rfl, .inl ⟨pvs_nums _ _, rfl⟩⟩ | exact ⟨_, rfl, rfl, rfl, .inr ⟨rfl, rfl⟩⟩)⟩
  · have := i.all (by omega)
    rw [idT, idxP, if_neg (by simpa using this)]
theorem rfind_v (l : List Tx) (hl : l.length ≤ 1000000) (a : Int) : VCalls Try.prog 20 [.pv (.sl (fz encT l)), .int .i64 a] [] (Ret (.int .i64 (idT l a))) := by
  refine vcalls_drop (fn := Try.f20) Try.func20 rfl (by kernel_rfl) (by simp [Try.f20]) ?_
  have h := rfind0_v l hl a
  simp (config := { maxSteps := 2000000 }) (implicitDefEqProofs := false) (disch := first | omega | assumption | (simp only []; done) | fail) only [go_sem, Nat.reduceAdd, Nat.reduceLT, Nat.reduceBEq, Int.reduceLT, Int.reduceAdd, Int.reduceBEq, Try.f20]
  skip
  repeat' (first
    | (refine vrunG_split (fun hZ => ?_) (fun hZ => ?_) <;> (try rw [hZ]) <;> (try simp only [decide_eq_true_eq, decide_eq_false_iff_not, Bool.or_eq_true, Bool.and_eq_true, Bool.or_eq_false_iff, Bool.and_eq_false_imp, Bool.not_eq_true', Bool.not_eq_false', beq_iff_eq, beq_eq_false_iff_ne, bne_iff_ne, bne_eq_false_iff_eq, ne_eq, Bool.not_eq_eq_eq_not, Bool.not_true, Bool.not_false] at hZ) <;> (try (first | rw [(hZ : _ = false)] | rw [(hZ : _ = true)])) <;> skip)
    | (refine vbr_split (fun hZ => ?_) (fun hZ => ?_) <;> (try rw [hZ]) <;> (try simp only [decide_eq_true_eq, decide_eq_false_iff_not, Bool.or_eq_true, Bool.and_eq_true, Bool.or_eq_false_iff, Bool.and_eq_false_imp, Bool.not_eq_true', Bool.not_eq_false', beq_iff_eq, beq_eq_false_iff_ne, bne_iff_ne, bne_eq_false_iff_eq, ne_eq, Bool.not_eq_eq_eq_not, Bool.not_true, Bool.not_false] at hZ) <;> (try (first | rw [(hZ : _ = false)] | rw [(hZ : _ = true)])) <;> skip)
    | (refine vdrG_split (fun hZ => ?_) (fun hZ => ?_) <;> (try rw [hZ]) <;> (try simp only [decide_eq_true_eq, decide_eq_false_iff_not, Bool.or_eq_true, Bool.and_eq_true, Bool.or_eq_false_iff, Bool.and_eq_false_imp, Bool.not_eq_true', Bool.not_eq_false', beq_iff_eq, beq_eq_false_iff_ne, bne_iff_ne, bne_eq_false_iff_eq, ne_eq, Bool.not_eq_eq_eq_not, Bool.not_true, Bool.not_false] at hZ) <;> (try (first | rw [(hZ : _ = false)] | rw [(hZ : _ = true)])) <;> skip)
    | (refine vc_pure (h) rfl ?_; (try simp (config := { maxSteps := 2000000 }) (implicitDefEqProofs := false) (disch := first | omega | assumption | (simp only []; done) | fail) only [go_sem]))
    )
theorem rset_v (l : List Tx) (hl : l.length ≤ 1000000) (i : Nat) (hi : i < l.length) (t : Tx) : VCalls Try.prog 45 [.pv (.sl (fz encT l)), .int .i64 i, .agg t.d] [] (Ret (.pv (.sl (fz encT (l.set i t))))) := by
  refine vcalls_drop (fn := Try.f45) Try.func45 rfl (by kernel_rfl) (by simp [Try.f45]) ?_
  have hb : i * 6 + 6 ≤ l.length * 6 := by omega
  have hse : splice (cells encT l) (i * 6) [.pv (.lit (.int .i64 t.id)), .pv (.lit (.int .i64 t.st)), .pv (.lit (.int .i64 t.n)), .pv (.lit (.int .i64 t.b)), .pv (.sl (fz encI t.l)), .pv (.sl (fz encI t.s))] = cells encT (l.set i t) := set_in encT l i t hi
  simp (config := { maxSteps := 2000000 }) (implicitDefEqProofs := false) (disch := first | omega | assumption | (simp only []; done) | fail) only [go_sem, ↓reduceIte, reduceCtorEq, Nat.reduceAdd, Nat.reduceBEq, Int.reduceAdd, Int.reduceBEq, Try.f45, Tx.d]
  (try simp (config := { maxSteps := 2000000 }) (implicitDefEqProofs := false) (disch := first | omega | assumption | (simp only []; done) | (simp only [List.length_set] <;> omega) | fail) only [go_sem, ↓reduceIte, Nat.reduceAdd, Nat.reduceLT, Nat.reduceBEq, Int.reduceLT, Int.reduceAdd, Int.reduceBEq, lenT, srcT, frzT, mem_ok, hb, hse])
  repeat' (first
    | (refine vrunG_split (fun hZ => ?_) (fun hZ => ?_) <;> (try rw [hZ]) <;> (try simp only [decide_eq_true_eq, decide_eq_false_iff_not, Bool.or_eq_true, Bool.and_eq_true, Bool.or_eq_false_iff, Bool.and_eq_false_imp, Bool.not_eq_true', Bool.not_eq_false', beq_iff_eq, beq_eq_false_iff_ne, bne_iff_ne, bne_eq_false_iff_eq, ne_eq, Bool.not_eq_eq_eq_not, Bool.not_true, Bool.not_false] at hZ) <;> (try (first | rw [(hZ : _ = false)] | rw [(hZ : _ = true)])) <;> skip)
    | (refine vbr_split (fun hZ => ?_) (fun hZ => ?_) <;> (try rw [hZ]) <;> (try simp only [decide_eq_true_eq, decide_eq_false_iff_not, Bool.or_eq_true, Bool.and_eq_true, Bool.or_eq_false_iff, Bool.and_eq_false_imp, Bool.not_eq_true', Bool.not_eq_false', beq_iff_eq, beq_eq_false_iff_ne, bne_iff_ne, bne_eq_false_iff_eq, ne_eq, Bool.not_eq_eq_eq_not, Bool.not_true, Bool.not_false] at hZ) <;> (try (first | rw [(hZ : _ = false)] | rw [(hZ : _ = true)])) <;> skip)
    | (refine vdrG_split (fun hZ => ?_) (fun hZ => ?_) <;> (try rw [hZ]) <;> (try simp only [decide_eq_true_eq, decide_eq_false_iff_not, Bool.or_eq_true, Bool.and_eq_true, Bool.or_eq_false_iff, Bool.and_eq_false_imp, Bool.not_eq_true', Bool.not_eq_false', beq_iff_eq, beq_eq_false_iff_ne, bne_iff_ne, bne_eq_false_iff_eq, ne_eq, Bool.not_eq_eq_eq_not, Bool.not_true, Bool.not_false] at hZ) <;> (try (first | rw [(hZ : _ = false)] | rw [(hZ : _ = true)])) <;> skip)
    )
theorem rsettle_v (t : Tx) (hs : t.sm) : VCalls Try.prog 46 [.agg t.d] [] (Ret (.agg (settleS t).d)) := by
  refine vcalls_drop (fn := Try.f46) Try.func46 rfl (by kernel_rfl) (by simp [Try.f46]) ?_
  have hg := fun h : 0 < t.l.length => lastI t.l h
  obtain ⟨id, st, n, b, l, s⟩ := t
  obtain ⟨h1, h2⟩ := hs
  dsimp only at h1 h2 hg
  have eS : settleS ⟨id, st, n, b, l, s⟩ = if st = 2 ∧ leftB ⟨id, st, n, b, l, s⟩ b = false then ⟨id, 1, n, 0, l, s⟩ else ⟨id, st, n, b, l, s⟩ := rfl
  have eL : leftB ⟨id, st, n, b, l, s⟩ b = (decide (0 < l.length) && decide (b < l.getD (l.length - 1) 0)) := rfl
  generalize settleS ⟨id, st, n, b, l, s⟩ = u at *
  generalize leftB ⟨id, st, n, b, l, s⟩ b = B at *
  simp (config := { maxSteps := 2000000 }) (implicitDefEqProofs := false) (disch := first | omega | assumption | (simp only []; done) | fail) only [go_sem, ↓reduceIte, Try.f46, Tx.d]
  skip
  repeat' (first
    | (refine vrunG_split (fun hZ => ?_) (fun hZ => ?_) <;> (try rw [hZ]) <;> (try simp only [decide_eq_true_eq, decide_eq_false_iff_not, Bool.or_eq_true, Bool.and_eq_true, Bool.or_eq_false_iff, Bool.and_eq_false_imp, Bool.not_eq_true', Bool.not_eq_false', beq_iff_eq, beq_eq_false_iff_ne, bne_iff_ne, bne_eq_false_iff_eq, ne_eq, Bool.not_eq_eq_eq_not, Bool.not_true, Bool.not_false] at hZ) <;> (try (first | rw [(hZ : _ = false)] | rw [(hZ : _ = true)])) <;> (try simp (config := { maxSteps := 2000000 }) (implicitDefEqProofs := false) (disch := first | omega | assumption | (simp only [List.length_cons, List.length_nil, Nat.zero_add]; done) | fail) only [go_sem, V.splice, ↓reduceIte, reduceCtorEq, Nat.reduceAdd, Nat.reduceLT, Nat.reduceBEq, Int.reduceLT, Int.reduceAdd, Int.reduceBEq, hg]))
    | (refine vbr_split (fun hZ => ?_) (fun hZ => ?_) <;> (try rw [hZ]) <;> (try simp only [decide_eq_true_eq, decide_eq_false_iff_not, Bool.or_eq_true, Bool.and_eq_true, Bool.or_eq_false_iff, Bool.and_eq_false_imp, Bool.not_eq_true', Bool.not_eq_false', beq_iff_eq, beq_eq_false_iff_ne, bne_iff_ne, bne_eq_false_iff_eq, ne_eq, Bool.not_eq_eq_eq_not, Bool.not_true, Bool.not_false] at hZ) <;> (try (first | rw [(hZ : _ = false)] | rw [(hZ : _ = true)])) <;> (try simp (config := { maxSteps := 2000000 }) (implicitDefEqProofs := false) (disch := first | omega | assumption | (simp only []; done) | fail) only [go_sem, V.splice, ↓reduceIte, reduceCtorEq, Nat.reduceAdd, Nat.reduceLT, Nat.reduceBEq, Int.reduceLT, Int.reduceAdd, Int.reduceBEq]))
    | (refine vdrG_split (fun hZ => ?_) (fun hZ => ?_) <;> (try rw [hZ]) <;> (try simp only [decide_eq_true_eq, decide_eq_false_iff_not, Bool.or_eq_true, Bool.and_eq_true, Bool.or_eq_false_iff, Bool.and_eq_false_imp, Bool.not_eq_true', Bool.not_eq_false', beq_iff_eq, beq_eq_false_iff_ne, bne_iff_ne, bne_eq_false_iff_eq, ne_eq, Bool.not_eq_eq_eq_not, Bool.not_true, Bool.not_false] at hZ) <;> (try (first | rw [(hZ : _ = false)] | rw [(hZ : _ = true)])) <;> skip)
    | (refine vspine (id := 1) [0, 1, 2, 3, 4, 5, 6, 7, 8, 9, 10, 11, 12, 13, 14, 15, 16, 17, 18, 19, 20, 21] [] (by kernel_rfl) (by kernel_rfl) ?_; (try simp (config := { maxSteps := 2000000 }) (implicitDefEqProofs := false) (disch := first | omega | assumption | (simp only []; done) | fail) only [go_sem, ↓reduceIte, reduceCtorEq, Nat.reduceBEq, Int.reduceBEq]))
    )
  all_goals first
    | (rw [eS, if_pos ⟨by assumption, by rw [eL, decide_eq_false (show ¬ b < l.getD (l.length - 1) 0 by omega), Bool.and_false]⟩])
    | (rw [eS, if_pos ⟨by assumption, by rw [eL, decide_eq_false (show ¬ 0 < l.length by omega), Bool.false_and]⟩])
    | (rw [eS, if_neg (by rintro ⟨h, _⟩; omega)])
    | (rw [eS, if_neg (by rintro ⟨_, h⟩; rw [eL, decide_eq_true (show b < l.getD (l.length - 1) 0 by omega), decide_eq_true (show 0 < l.length by omega)] at h; cases h)])
end Go.Proofs.Ytkbahhackcnnbaa
