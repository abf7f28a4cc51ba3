/-
  Contracts of functions of the program and of the statements, and plain laws. No condition.
-/
import Derived.Test.YtjiaadkncpajnaaP1
import Derived.Test.YtjiaadkncpajnaaV3
namespace Go.Proofs.Ytjiaadkncpajnaa
open Go.V Go
set_option maxRecDepth 100000
set_option linter.unusedSimpArgs false

/-! Plain: holding, settling. -/
theorem flo_le (l : List Gr) (tx pg sl : Int) : floG l tx pg sl ≤ l.length := lo_le _ _
theorem flo_lt (l : List Gr) (tx pg sl : Int) (k : Nat) (hk : k < floG l tx pg sl) (hl : k < l.length) : ordG l[k] ⟨tx, pg, sl, 0⟩ < 0 := by
  exact of_decide_eq_true (lo_before l _ k hk hl)
theorem flo_ge (l : List Gr) (h : sortedG l) (tx pg sl : Int) (k : Nat) (hk : floG l tx pg sl ≤ k) (hl : k < l.length) : ¬ ordG l[k] ⟨tx, pg, sl, 0⟩ < 0 := by
  intro hx
  have h1 : floG l tx pg sl < l.length := by omega
  have h2 := lo_at l (fun x => decide (ordG x ⟨tx, pg, sl, 0⟩ < 0)) h1
  rw [decide_eq_false_iff_not] at h2
  apply h2
  rcases Nat.lt_or_ge (floG l tx pg sl) k with hlt | hge
  · exact of_decide_eq_true (fore_G l h ⟨tx, pg, sl, 0⟩ (floG l tx pg sl) k h1 hl hlt (decide_eq_true hx))
  · have e : k = floG l tx pg sl := by omega
    subst e; exact hx
theorem ffound_iff (l : List Gr) (tx pg sl : Int) : ffound l tx pg sl = true ↔ ∃ h : floG l tx pg sl < l.length, keyB tx pg sl l[floG l tx pg sl] = true := by
  unfold ffound
  cases hx : l[floG l tx pg sl]? with
  | none => rw [List.getElem?_eq_none_iff] at hx; simp; omega
  | some g =>
    obtain ⟨hlt, rfl⟩ := List.getElem?_eq_some_iff.1 hx
    simp only [Option.map_some, Option.getD_some, keyB_ord]
    exact ⟨fun h => ⟨hlt, h⟩, fun ⟨_, h⟩ => h⟩
/-- How many are replaced. -/
def fnum (l : List Gr) (g : Gr) : Nat := if ffound l g.tx g.pg g.sl = true then 1 else 0
def flo (l : List Gr) (g : Gr) : Nat := floG l g.tx g.pg g.sl
/-- A grant more is held; a weaker one of the same transaction goes. -/
def holdS (l : List Gr) (g : Gr) : List Gr := l.take (flo l g) ++ g :: l.drop (flo l g + fnum l g)
theorem flo_num (l : List Gr) (g : Gr) : flo l g + fnum l g ≤ l.length := by
  unfold fnum flo
  split
  · rename_i h
    obtain ⟨h1, _⟩ := (ffound_iff _ _ _ _).1 h
    omega
  · have := flo_le l g.tx g.pg g.sl; omega
theorem take_lt (l : List Gr) (g : Gr) : ∀ x ∈ l.take (flo l g), ordG x g < 0 := by
  intro x hx
  obtain ⟨k, hk, rfl⟩ := List.mem_take_iff_getElem.1 hx
  exact flo_lt l g.tx g.pg g.sl k (by unfold flo at hk; omega) (by omega)
theorem drop_gt (l : List Gr) (h : sortedG l) (g : Gr) : ∀ x ∈ l.drop (flo l g + fnum l g), ordG g x < 0 := by
  intro x hx
  obtain ⟨k, hk, rfl⟩ := List.mem_drop_iff_getElem.1 hx
  have h1 := flo_ge l h g.tx g.pg g.sl (flo l g + fnum l g + k) (by unfold flo; omega) (by omega)
  have h2 : ¬ (l[flo l g + fnum l g + k].tx = g.tx ∧ l[flo l g + fnum l g + k].pg = g.pg ∧ l[flo l g + fnum l g + k].sl = g.sl) := by
    intro he
    have hk2 := keyB_eq.2 he
    by_cases hf : ffound l g.tx g.pg g.sl = true
    · have e1 : fnum l g = 1 := by simp [fnum, hf]
      obtain ⟨h3, h4⟩ := (ffound_iff _ _ _ _).1 hf
      have := List.pairwise_iff_getElem.mp h (flo l g) (flo l g + fnum l g + k) h3 (by omega) (by omega)
      rw [keyB_eq] at h4
      rw [ordG_lt] at this
      unfold flo at *
      omega
    · have e1 : fnum l g = 0 := by simp [fnum, hf]
      rcases Nat.eq_zero_or_pos k with hz | hz
      · apply hf
        rw [ffound_iff]
        refine ⟨by unfold flo at hk; omega, ?_⟩
        simpa [e1, hz, flo] using hk2
      · have h3 : flo l g < l.length := by omega
        have h5 := flo_ge l h g.tx g.pg g.sl (flo l g) (by unfold flo; omega) h3
        have := List.pairwise_iff_getElem.mp h (flo l g) (flo l g + fnum l g + k) h3 (by omega) (by omega)
        rw [ordG_lt] at this h5
        simp only at h5
        omega
  rw [ordG_lt] at h1 ⊢
  simp only at h1
  omega
theorem holdS_sorted (l : List Gr) (h : sortedG l) (g : Gr) : sortedG (holdS l g) := by
  unfold holdS sortedG
  rw [List.pairwise_append]
  refine ⟨List.Pairwise.sublist (List.take_sublist _ _) h, List.pairwise_cons.2 ⟨drop_gt l h g, List.Pairwise.sublist (List.drop_sublist _ _) h⟩, ?_⟩
  intro a ha b hb
  rcases List.mem_cons.1 hb with rfl | hb
  · exact take_lt l _ a ha
  · exact ordG_trans (take_lt l g a ha) (drop_gt l h g b hb)
theorem mem_holdS (l : List Gr) (h : sortedG l) (g x : Gr) : x ∈ holdS l g ↔ x = g ∨ (x ∈ l ∧ keyB g.tx g.pg g.sl x = false) := by
  have key : x ∈ l → x ∉ l.take (flo l g) → x ∉ l.drop (flo l g + fnum l g) → keyB g.tx g.pg g.sl x = true := by
    intro h1 h2 h3
    obtain ⟨k, hk, rfl⟩ := List.getElem_of_mem h1
    have h4 : ¬ k < flo l g := fun hlt => h2 (List.mem_take_iff_getElem.2 ⟨k, by omega, rfl⟩)
    have h5 : ¬ flo l g + fnum l g ≤ k := fun hge => h3 (List.mem_drop_iff_getElem.2 ⟨k - (flo l g + fnum l g), by omega, by congr 1; omega⟩)
    have e : fnum l g = 1 ∧ k = flo l g := by
      unfold fnum at *
      split at h5 <;> rename_i hf
      · rw [if_pos hf]; exact ⟨rfl, by omega⟩
      · omega
    obtain ⟨e1, rfl⟩ := e
    have hf : ffound l g.tx g.pg g.sl = true := by
      unfold fnum at e1
      split at e1
      · assumption
      · cases e1
    exact ((ffound_iff _ _ _ _).1 hf).2
  unfold holdS
  rw [List.mem_append, List.mem_cons]
  constructor
  · rintro (h1 | h1 | h1)
    · refine .inr ⟨List.mem_of_mem_take h1, ?_⟩
      have := take_lt l g x h1
      rw [ordG_lt] at this
      rw [Bool.eq_false_iff, ne_eq, keyB_eq]; omega
    · exact .inl h1
    · refine .inr ⟨List.mem_of_mem_drop h1, ?_⟩
      have := drop_gt l h g x h1
      rw [ordG_lt] at this
      rw [Bool.eq_false_iff, ne_eq, keyB_eq]; omega
  · rintro (h1 | ⟨h1, h2⟩)
    · exact .inr (.inl h1)
    · by_cases h3 : x ∈ l.take (flo l g)
      · exact .inl h3
      · by_cases h4 : x ∈ l.drop (flo l g + fnum l g)
        · exact .inr (.inr h4)
        · rw [key h1 h3 h4] at h2; cases h2
theorem holdS_len (l : List Gr) (g : Gr) : (holdS l g).length = l.length + 1 - fnum l g := by
  have := flo_num l g
  have h2 : fnum l g ≤ 1 := by unfold fnum; split <;> omega
  simp only [holdS, List.length_append, List.length_take, List.length_cons, List.length_drop]
  omega
theorem modeS_in (l : List Gr) (h : sortedG l) (x : Gr) (hx : x ∈ l) : modeS l x.tx x.pg x.sl = x.md := by
  unfold modeS
  cases hf : l.find? (keyB x.tx x.pg x.sl) with
  | none =>
    rw [List.find?_eq_none] at hf
    exact absurd (keyB_eq.2 ⟨rfl, rfl, rfl⟩) (hf x hx)
  | some y =>
    have h1 := List.find?_some hf
    have h2 := List.mem_of_find?_eq_some hf
    rw [keyB_eq] at h1
    obtain ⟨i, hi, rfl⟩ := List.getElem_of_mem hx
    obtain ⟨j, hj, rfl⟩ := List.getElem_of_mem h2
    show l[j].md = l[i].md
    rcases Nat.lt_trichotomy i j with hlt | heq | hgt
    · have := List.pairwise_iff_getElem.mp h i j hi hj hlt
      rw [ordG_lt] at this; omega
    · subst heq; rfl
    · have := List.pairwise_iff_getElem.mp h j i hj hi hgt
      rw [ordG_lt] at this; omega
theorem modeS_out (l : List Gr) (tx pg sl : Int) (h : ∀ x ∈ l, keyB tx pg sl x = false) : modeS l tx pg sl = 0 := by
  unfold modeS
  have : l.find? (keyB tx pg sl) = none := by rw [List.find?_eq_none]; intro x hx; rw [h x hx]; simp
  rw [this]
theorem modeS_key (l : List Gr) (h : sortedG l) (tx pg sl : Int) (x : Gr) (hx : x ∈ l) (hk : keyB tx pg sl x = true) : modeS l tx pg sl = x.md := by
  obtain ⟨rfl, rfl, rfl⟩ := keyB_eq.1 hk
  exact modeS_in l h x hx
/-- The lists that agree on a key agree on its mode. -/
theorem modeS_same (l m : List Gr) (h : sortedG l) (h' : sortedG m) (tx pg sl : Int) (e : ∀ x, keyB tx pg sl x = true → (x ∈ l ↔ x ∈ m)) : modeS l tx pg sl = modeS m tx pg sl := by
  by_cases hx : ∃ x ∈ l, keyB tx pg sl x = true
  · obtain ⟨x, h1, h2⟩ := hx
    rw [modeS_key l h tx pg sl x h1 h2, modeS_key m h' tx pg sl x ((e x h2).1 h1) h2]
  · have h1 : ∀ x ∈ l, keyB tx pg sl x = false := fun x hm => by simpa using fun hk => hx ⟨x, hm, hk⟩
    rw [modeS_out l tx pg sl h1, modeS_out m]
    intro x hm
    cases hk : keyB tx pg sl x with
    | false => rfl
    | true => have := h1 x ((e x hk).2 hm); rw [hk] at this; cases this
/-- Right tables, but for their size. -/
structure Lk.Good (t : Lk) : Prop where
  srt : sortedG t.held
  okh : ∀ g ∈ t.held, g.okB = true
  nc : ∀ a ∈ t.held, ∀ b ∈ t.held, confB a b = false
  okw : ∀ g ∈ t.wait, g.okB = true
  md : ∀ g ∈ t.wait, modeS t.held g.tx g.pg g.sl < g.md
  dis : t.wait.Pairwise fun a b => a.tx ≠ b.tx
theorem confB_iff (a b : Gr) : confB a b = true ↔ a.tx ≠ b.tx ∧ a.pg = b.pg ∧ a.sl = b.sl ∧ (a.md = 2 ∨ b.md = 2) := by
  simp [confB, sameL, and_assoc]
theorem confB_symm (a b : Gr) : confB a b = confB b a := by
  rw [Bool.eq_iff_iff, confB_iff, confB_iff]; omega
theorem okB_iff (t : Lk) : t.okB = true ↔ t.held.length + t.wait.length ≤ 1024 ∧ t.Good := by
  constructor
  · intro h
    simp only [Lk.okB, Bool.and_eq_true, decide_eq_true_eq] at h
    obtain ⟨⟨h1, h2⟩, h3⟩ := h
    have hs := sorted_of t.held h2
    rw [List.all_eq_true] at h2 h3
    refine ⟨h1, hs, ?_, ?_, ?_, ?_, ?_⟩
    · intro g hg
      obtain ⟨i, hi, rfl⟩ := List.getElem_of_mem hg
      have := h2 i (by rwa [List.mem_range])
      simp only [Lk.chkH, Bool.and_eq_true] at this
      rw [getD_eq t.held i hi] at this
      exact this.1
    · have nb : ∀ i, ∀ h : i + 1 < t.held.length, confB t.held[i] t.held[i + 1] = false := by
        intro i hi
        have := h2 (i + 1) (by rwa [List.mem_range])
        simp only [Lk.chkH, Bool.and_eq_true, Bool.or_eq_true, decide_eq_true_eq, Bool.not_eq_true'] at this
        rw [getD_eq t.held (i + 1) hi, getD_eq t.held (i + 1 - 1) (by omega)] at this
        rcases this.2 with h | h
        · omega
        · exact h.2
      have ij : ∀ i j, ∀ hi : i < t.held.length, ∀ hj : j < t.held.length, i < j → confB t.held[i] t.held[j] = false := by
        intro i j hi hj hij
        rw [Bool.eq_false_iff]
        intro hc
        rw [confB_iff] at hc
        have sl : ∀ a b, ∀ ha : a < t.held.length, ∀ hb : b < t.held.length, a < b → ordG t.held[a] t.held[b] < 0 := fun a b ha hb hab => List.pairwise_iff_getElem.mp hs a b ha hb hab
        rcases hc.2.2.2 with hm | hm
        · have h5 := nb i (by omega)
          rw [Bool.eq_false_iff, ne_eq, confB_iff] at h5
          have h6 := sl i (i + 1) hi (by omega) (by omega)
          rcases Nat.lt_or_ge (i + 1) j with hlt | hge
          · have h7 := sl (i + 1) j (by omega) hj hlt
            rw [ordG_lt] at h6 h7
            omega
          · have e : j = i + 1 := by omega
            subst e
            rw [ordG_lt] at h6
            omega
        · have h5 := nb (j - 1) (by omega)
          have ej : j - 1 + 1 = j := by omega
          simp only [ej] at h5
          rw [Bool.eq_false_iff, ne_eq, confB_iff] at h5
          have h6 := sl (j - 1) j (by omega) hj (by omega)
          rcases Nat.lt_or_ge i (j - 1) with hlt | hge
          · have h7 := sl i (j - 1) hi (by omega) hlt
            rw [ordG_lt] at h6 h7
            omega
          · have e : i = j - 1 := by omega
            subst e
            rw [ordG_lt] at h6
            omega
      intro a ha b hb
      obtain ⟨i, hi, rfl⟩ := List.getElem_of_mem ha
      obtain ⟨j, hj, rfl⟩ := List.getElem_of_mem hb
      rcases Nat.lt_trichotomy i j with hlt | heq | hgt
      · exact ij i j hi hj hlt
      · subst heq; rw [Bool.eq_false_iff, ne_eq, confB_iff]; omega
      · rw [confB_symm]; exact ij j i hj hi hgt
    · intro g hg
      obtain ⟨i, hi, rfl⟩ := List.getElem_of_mem hg
      have := h3 i (by rwa [List.mem_range])
      simp only [Lk.chkW, Bool.and_eq_true] at this
      rw [getD_eq t.wait i hi] at this
      exact this.1.1
    · intro g hg
      obtain ⟨i, hi, rfl⟩ := List.getElem_of_mem hg
      have := h3 i (by rwa [List.mem_range])
      simp only [Lk.chkW, Bool.and_eq_true, decide_eq_true_eq] at this
      rw [getD_eq t.wait i hi] at this
      exact this.1.2
    · rw [List.pairwise_iff_getElem]
      intro i j hi hj hij he
      have := h3 j (by rwa [List.mem_range])
      simp only [Lk.chkW, Bool.and_eq_true, decide_eq_true_eq, Bool.not_eq_true', List.any_eq_false] at this
      rw [getD_eq t.wait j hj] at this
      exact this.2 t.wait[i] (List.mem_take_iff_getElem.2 ⟨i, by omega, rfl⟩) he
  · rintro ⟨h1, h⟩
    simp only [Lk.okB, Bool.and_eq_true, decide_eq_true_eq]
    refine ⟨⟨h1, ?_⟩, ?_⟩
    · rw [List.all_eq_true]
      intro i hi
      rw [List.mem_range] at hi
      simp only [Lk.chkH, Bool.and_eq_true, Bool.or_eq_true, decide_eq_true_eq, Bool.not_eq_true']
      rw [getD_eq t.held i hi, getD_eq t.held (i - 1) (by omega)]
      refine ⟨h.okh _ (List.getElem_mem hi), ?_⟩
      rcases Nat.eq_zero_or_pos i with hz | hz
      · exact .inl hz
      · exact .inr ⟨List.pairwise_iff_getElem.mp h.srt (i - 1) i (by omega) hi (by omega), h.nc _ (List.getElem_mem _) _ (List.getElem_mem _)⟩
    · rw [List.all_eq_true]
      intro i hi
      rw [List.mem_range] at hi
      simp only [Lk.chkW, Bool.and_eq_true, decide_eq_true_eq, Bool.not_eq_true', List.any_eq_false]
      rw [getD_eq t.wait i hi]
      refine ⟨⟨h.okw _ (List.getElem_mem hi), h.md _ (List.getElem_mem hi)⟩, ?_⟩
      intro x hx
      obtain ⟨k, hk, rfl⟩ := List.mem_take_iff_getElem.1 hx
      exact List.pairwise_iff_getElem.mp h.dis k i (by omega) hi (by omega)

/-- A waiting grant is held. -/
def Lk.mv (t : Lk) (i : Nat) : Lk := ⟨holdS t.held (t.wait.getD i Gr0), t.wait.take i ++ t.wait.drop (i + 1)⟩
theorem Lk.mv_len (t : Lk) (i : Nat) (h : i < t.wait.length) : (t.mv i).wait.length = t.wait.length - 1 := by
  simp only [Lk.mv, List.length_append, List.length_take, List.length_drop]; omega
/-- The first that can be held. -/
def Lk.first (t : Lk) : Option Nat := (List.range t.wait.length).find? fun i => !t.blkB i
theorem Lk.first_lt {t : Lk} {i : Nat} (h : t.first = some i) : i < t.wait.length := by
  have := List.mem_of_find?_eq_some h
  rwa [List.mem_range] at this
def Lk.settleN : Nat → Lk → Lk
  | 0, t => t
  | n + 1, t => match t.first with
    | none => t
    | some i => Lk.settleN n (t.mv i)
def Lk.settle (t : Lk) : Lk := Lk.settleN t.wait.length t
theorem Lk.settle_none {t : Lk} (h : t.first = none) : t.settle = t := by
  unfold Lk.settle
  cases t.wait.length with
  | zero => rfl
  | succ n => simp only [Lk.settleN, h]
theorem Lk.settle_some {t : Lk} {i : Nat} (h : t.first = some i) : t.settle = (t.mv i).settle := by
  have hi := Lk.first_lt h
  unfold Lk.settle
  rw [Lk.mv_len t i hi]
  obtain ⟨n, hn⟩ : ∃ n, t.wait.length = n + 1 := ⟨t.wait.length - 1, by omega⟩
  rw [hn]
  simp only [Lk.settleN, h]
  rfl
theorem Lk.first_none {t : Lk} (h : ∀ k, k < t.wait.length → t.blkB k = true) : t.first = none := by
  unfold Lk.first
  rw [List.find?_eq_none]
  intro k hk
  rw [List.mem_range] at hk
  simp [h k hk]
theorem Lk.first_some {t : Lk} {i : Nat} (hi : i < t.wait.length) (hb : t.blkB i = false) (h : ∀ k, k < i → t.blkB k = true) : t.first = some i := by
  unfold Lk.first
  rw [List.find?_eq_some_iff_getElem]
  refine ⟨by simp [hb], i, by simpa using hi, by simp, fun j hj => ?_⟩
  simp [h j hj]
theorem Lk.blkB_iff (t : Lk) (i : Nat) (hi : i < t.wait.length) : t.blkB i = true ↔ (∃ x ∈ t.held, confB x t.wait[i] = true) ∨ ∃ k, ∃ h : k < i, confB t.wait[k] t.wait[i] = true := by
  unfold Lk.blkB
  rw [getD_eq t.wait i hi, Bool.or_eq_true, List.any_eq_true, List.any_eq_true]
  refine or_congr Iff.rfl ⟨?_, ?_⟩
  · rintro ⟨x, hx, hc⟩
    obtain ⟨k, hk, rfl⟩ := List.mem_take_iff_getElem.1 hx
    exact ⟨k, by omega, hc⟩
  · rintro ⟨k, hk, hc⟩
    exact ⟨t.wait[k], List.mem_take_iff_getElem.2 ⟨k, by omega, rfl⟩, hc⟩
theorem okB_md {g : Gr} (h : g.okB = true) : g.md = 1 ∨ g.md = 2 := by
  simp only [Gr.okB, Bool.and_eq_true, Bool.or_eq_true, decide_eq_true_eq] at h; exact h.2
theorem mem_rest {l : List Gr} {i : Nat} {x : Gr} (h : x ∈ l.take i ++ l.drop (i + 1)) : x ∈ l := by
  rcases List.mem_append.1 h with h | h
  · exact List.mem_of_mem_take h
  · exact List.mem_of_mem_drop h
theorem rest_sub (l : List Gr) (i : Nat) : (l.take i ++ l.drop (i + 1)).Sublist l := by
  have := List.eraseIdx_sublist l i
  rwa [List.eraseIdx_eq_take_drop_succ] at this
theorem rest_get {l : List Gr} {i : Nat} (hi : i < l.length) (k : Nat) (hk : k < i) (h : k < (l.take i ++ l.drop (i + 1)).length) : (l.take i ++ l.drop (i + 1))[k] = l[k] := by
  rw [List.getElem_append_left (by rw [List.length_take]; omega), List.getElem_take]
theorem rest_tx {t : Lk} (g : t.Good) {i : Nat} (hi : i < t.wait.length) {x : Gr} (h : x ∈ t.wait.take i ++ t.wait.drop (i + 1)) : x.tx ≠ t.wait[i].tx := by
  rcases List.mem_append.1 h with h | h
  · obtain ⟨k, hk, rfl⟩ := List.mem_take_iff_getElem.1 h
    exact List.pairwise_iff_getElem.mp g.dis k i (by omega) hi (by omega)
  · obtain ⟨k, hk, rfl⟩ := List.mem_drop_iff_getElem.1 h
    exact (List.pairwise_iff_getElem.mp g.dis i (i + 1 + k) hi (by omega) (by omega)).symm
theorem Lk.Good.mv {t : Lk} (g : t.Good) {i : Nat} (hi : i < t.wait.length) (hb : t.blkB i = false) : (t.mv i).Good := by
  have hd := getD_eq t.wait i hi Gr0
  have hno : ∀ x ∈ t.held, confB x t.wait[i] = false := fun x hx => by
    rw [Bool.eq_false_iff]
    intro hc
    rw [(Lk.blkB_iff t i hi).2 (.inl ⟨x, hx, hc⟩)] at hb
    cases hb
  have hsr := holdS_sorted t.held g.srt t.wait[i]
  refine ⟨?_, ?_, ?_, ?_, ?_, ?_⟩
  · simp only [Lk.mv, hd]; exact hsr
  · simp only [Lk.mv, hd]
    intro x hx
    rcases (mem_holdS _ g.srt _ _).1 hx with rfl | h
    · exact g.okw _ (List.getElem_mem hi)
    · exact g.okh x h.1
  · simp only [Lk.mv, hd]
    intro a ha b hb
    rcases (mem_holdS _ g.srt _ _).1 ha with rfl | ha <;> rcases (mem_holdS _ g.srt _ _).1 hb with rfl | hb
    · rw [Bool.eq_false_iff, ne_eq, confB_iff]; omega
    · rw [confB_symm]; exact hno b hb.1
    · exact hno a ha.1
    · exact g.nc a ha.1 b hb.1
  · simp only [Lk.mv]
    exact fun x hx => g.okw x (mem_rest hx)
  · simp only [Lk.mv, hd]
    intro x hx
    have ht := rest_tx g hi hx
    rw [modeS_same (holdS t.held t.wait[i]) t.held hsr g.srt x.tx x.pg x.sl ?_]
    · exact g.md x (mem_rest hx)
    · intro y hy
      rw [mem_holdS _ g.srt]
      rw [keyB_eq] at hy
      constructor
      · rintro (rfl | h)
        · omega
        · exact h.1
      · intro h
        refine .inr ⟨h, ?_⟩
        rw [Bool.eq_false_iff, ne_eq, keyB_eq]; omega
  · exact List.Pairwise.sublist (rest_sub _ _) g.dis
/-- Who is kept waiting before goes on being kept waiting. -/
theorem Lk.Good.still {t : Lk} (g : t.Good) {i : Nat} (hi : i < t.wait.length) (k : Nat) (hk : k < i) (hb : t.blkB k = true) : (t.mv i).blkB k = true := by
  have hd := getD_eq t.wait i hi Gr0
  have hl := Lk.mv_len t i hi
  have hkl : k < (t.mv i).wait.length := by omega
  have eg : ∀ j, ∀ h : j < i, ∀ h2 : j < (t.mv i).wait.length, (t.mv i).wait[j] = t.wait[j] := fun j h h2 => rest_get hi j h h2
  rw [Lk.blkB_iff _ k hkl, eg k hk hkl]
  rcases (Lk.blkB_iff t k (by omega)).1 hb with ⟨x, hx, hc⟩ | ⟨j, hj, hc⟩
  · left
    simp only [Lk.mv, hd]
    cases hkey : keyB t.wait[i].tx t.wait[i].pg t.wait[i].sl x with
    | false => exact ⟨x, (mem_holdS _ g.srt _ _).2 (.inr ⟨hx, hkey⟩), hc⟩
    | true =>
      refine ⟨t.wait[i], (mem_holdS _ g.srt _ _).2 (.inl rfl), ?_⟩
      have h1 := g.md _ (List.getElem_mem hi)
      rw [modeS_key t.held g.srt _ _ _ x hx hkey] at h1
      have h2 := okB_md (g.okw _ (List.getElem_mem hi))
      have h3 := okB_md (g.okh _ hx)
      rw [keyB_eq] at hkey
      rw [confB_iff] at hc ⊢
      omega
  · right
    exact ⟨j, hj, by rw [eg j (by omega) (by omega)]; exact hc⟩
theorem Lk.Good.settleN : ∀ (n : Nat) {t : Lk}, t.Good → (Lk.settleN n t).Good
  | 0, t, g => g
  | n + 1, t, g => by
    simp only [Lk.settleN]
    cases h : t.first with
    | none => exact g
    | some i =>
      have hb := List.find?_some h
      exact Lk.Good.settleN n (g.mv (Lk.first_lt h) (by simpa using hb))
theorem Lk.Good.settle {t : Lk} (g : t.Good) : t.settle.Good := g.settleN _
theorem Lk.mv_sum (t : Lk) (i : Nat) (h : i < t.wait.length) : (t.mv i).held.length + (t.mv i).wait.length ≤ t.held.length + t.wait.length := by
  have := holdS_len t.held (t.wait.getD i Gr0)
  have := Lk.mv_len t i h
  have : (t.mv i).held.length ≤ t.held.length + 1 := by simp only [Lk.mv]; omega
  omega
theorem Lk.settleN_sum : ∀ (n : Nat) (t : Lk), (Lk.settleN n t).held.length + (Lk.settleN n t).wait.length ≤ t.held.length + t.wait.length
  | 0, t => Nat.le_refl _
  | n + 1, t => by
    simp only [Lk.settleN]
    cases h : t.first with
    | none => exact Nat.le_refl _
    | some i => exact Nat.le_trans (Lk.settleN_sum n (t.mv i)) (Lk.mv_sum t i (Lk.first_lt h))
theorem Lk.settle_sum (t : Lk) : t.settle.held.length + t.settle.wait.length ≤ t.held.length + t.wait.length := Lk.settleN_sum _ t
end Go.Proofs.Ytjiaadkncpajnaa

namespace Go.Proofs.Ytjiaadkncpajnaa
open Go.V Go
set_option maxRecDepth 100000
set_option linter.unusedSimpArgs false

/-- The blocks of a table that has been copied. -/
def ownHp (t : Lk) : Heap := [⟨26, true, [.pv (.sl (fz encG t.held)), .pv (.sl (fz encG t.wait))]⟩, ⟨26, true, [.own 2 4 0 t.held.length, .own 3 4 0 t.wait.length]⟩, ⟨33, true, cells encG t.held⟩, ⟨33, true, cells encG t.wait⟩]
theorem own_v (t : Lk) (hs : t.sm) : VCalls Try.prog 34 [t.d] [] fun r h' => r = .agg [.own 2 4 0 t.held.length, .own 3 4 0 t.wait.length] ∧ h' = ownHp t := by
  obtain ⟨hs1, hs2⟩ := hs
  refine vcalls_keep (fn := Try.f34) Try.func34 rfl (by kernel_rfl) (by simp [Try.f34]) ?_
  simp (config := { maxSteps := 2000000 }) (implicitDefEqProofs := false) (disch := first | omega | assumption | (simp only [List.length_cons, List.length_nil, Nat.zero_add, Nat.reduceAdd]; done) | (simp only [IntKind.wrap_i64]; omega) | (simp only [List.length_replicate, List.length_set, List.length_append, List.length_cons, List.length_nil, List.length_take, List.length_drop, List.length_map] <;> omega) | fail) only [vop_alloc, vcallee_alloc, vop_box, vcallee_box, strip_agg, optV_none, ev_tmp, put_some, at_mk, fits_some, ↓look_cons, ↓vlook_t, guard_none, ↓vrun_nil, ↓code_region, ↓code_draw, ↓code_seq, ↓onNormal_normal, box_eq, alloc_eq, val1_some, allOne_nil, allOne_cons, one_pv, enum_nil, enum_cons, evG_eq, ↓vrun_cons, ↓run1_some, ↓run2_none, ↓run3_some, at_hp, dcells, List.toList_toArray, List.length_cons, List.length_nil, List.cons_append, List.nil_append, ↓reduceIte, Nat.reduceLT, Int.reduceLT, Nat.zero_add, true_and, and_self, Bool.true_and, Bool.and_self, cond_true, beq_self_eq_true, Try.vzero26, dec_t, Try.f34, Lk.d]
  refine vspine [0, 1, 3, 4] [⟨[], [], 2, [0, 3, 4], []⟩, ⟨[], [], 5, [0, 1, 3], [6]⟩, ⟨[], [], 7, [], []⟩] (by kernel_rfl) (by kernel_rfl) ?_
  simp (config := { maxSteps := 2000000 }) (implicitDefEqProofs := false) (disch := first | omega | assumption | (simp only [List.length_cons, List.length_nil, Nat.zero_add, Nat.reduceAdd]; done) | (simp only [IntKind.wrap_i64]; omega) | (simp only [List.length_replicate, List.length_set, List.length_append, List.length_cons, List.length_nil, List.length_take, List.length_drop, List.length_map] <;> omega) | fail) only [vop_load, vcallee_load, vop_fieldAddr, vcallee_fieldAddr, vcallee_value, vcal_fn, strip_pv, strip_ptr, strip_fn, optV_none, ev_tmp, ev_func, put_some, at_mk, fits_some, ↓look_cons, ↓vlook_t, ↓vlook_f, guard_none, ↓vrun_nil, load_ptr, vld_one, blk_zero, faddr_ptr, vfap_some, evG_eq, ↓vrun_cons, ↓run1_some, ↓run2_none, ↓run2_some, ↓run3_some, ↓vcg_none, at_hp, List.map_nil, List.getElem?_cons_zero, List.getElem?_cons_succ, List.map_cons, List.map_nil, List.nil_append, List.append_nil, Option.map_some, ↓reduceIte, reduceCtorEq, Nat.reduceLT, Nat.reduceBEq, Int.reduceLT, Int.reduceBEq, Nat.zero_add, Nat.add_zero, true_and, Bool.true_and, Bool.cond_self, beq_self_eq_true, ↓vsp_cons, vspC_true, vspR_eq, pick_nil, pick_cons, pickO_some, creas_nil, Try.vt24, Try.vfield26x0, Try.vfield26x1, dec_t]
  refine vc_new0 (cloneG_v t.held (by omega)) rfl (cells_nums _ _ _) ?_
  simp (config := { maxSteps := 2000000 }) (implicitDefEqProofs := false) (disch := first | omega | assumption | (simp only [List.length_cons, List.length_nil, Nat.zero_add, Nat.reduceAdd]; done) | (simp only [IntKind.wrap_i64]; omega) | (simp only [List.length_replicate, List.length_set, List.length_append, List.length_cons, List.length_nil, List.length_take, List.length_drop, List.length_map] <;> omega) | fail) only [foot_fieldAddr, foot_load, vcallee_value, vcal_fn, ptrNo_ptr, strip_pv, strip_ptr, strip_fn, ev_tmp, ev_func, put_some, at_mk, fits_some, ↓look_cons, ↓vlook_t, ↓vlook_f, guard_none, ↓vrun_nil, evG_eq, ↓vrun_cons, ↓run1_some, ↓run2_some, ↓runK_eq, ↓vcg_none, at_hp, List.map_nil, List.getElem?_cons_zero, List.getElem?_cons_succ, List.length_cons, List.length_nil, List.map_cons, List.map_nil, List.cons_append, List.nil_append, List.append_nil, Nat.reduceAdd, Nat.reduceLT, Nat.reduceBEq, Int.reduceLT, Int.reduceAdd, Int.reduceBEq, Nat.zero_add, true_and, and_self, Bool.true_and, Bool.and_self, beq_self_eq_true, ↓vsp_cons, ↓vspK_eq, vspC_true, vspR_eq, pick_nil, pick_cons, pickO_some, creas_nil, agree_nil, agree_cons, agree1_some, sameAt_nil, sameAt_cons, dec_t]
  refine vc_new0 (cloneG_v t.wait (by omega)) rfl (cells_nums _ _ _) ?_
  simp (config := { maxSteps := 2000000 }) (implicitDefEqProofs := false) (disch := first | omega | assumption | (simp only [List.length_cons, List.length_nil, Nat.zero_add, Nat.reduceAdd]; done) | (simp only [IntKind.wrap_i64]; omega) | (simp only [List.length_replicate, List.length_set, List.length_append, List.length_cons, List.length_nil, List.length_take, List.length_drop, List.length_map] <;> omega) | fail) only [vop_build, vcallee_build, vop_store, vcallee_store, foot_fieldAddr, foot_load, ptrNo_ptr, strip_ptr, strip_own, strip_agg, optV_none, ev_tmp, put_some, put_none, at_mk, fits_some, fits_none, ↓look_cons, ↓vlook_t, ↓vlook_f, guard_none, ↓vrun_nil, ↓code_ret, ↓onNormal_normal, res_one, vres_cell, load_ptr, vld_agg, store_ptr, vst_agg, blk_zero, blk_succ, set_zero, set_succ, allOne_nil, allOne_cons, one_pv, one_own, parts_nil, parts_cons, evG_eq, ↓vrun_cons, ↓run1_some, ↓run2_none, ↓run3_some, ↓runK_eq, ↓keep_ret, vfinK_some, at_hp, dcells, vbuild, vfill, V.splice, List.getElem?_cons_zero, List.getElem?_cons_succ, List.length_cons, List.length_nil, List.cons_append, List.nil_append, List.append_nil, List.take_succ_cons, List.take_zero, List.take_nil, List.drop_succ_cons, List.drop_zero, List.drop_nil, Option.map_some, ↓reduceIte, Nat.reduceAdd, Nat.reduceLT, Nat.reduceLeDiff, Nat.reduceBEq, Int.reduceLT, Int.reduceAdd, Int.reduceBEq, Nat.zero_add, true_and, and_self, Bool.true_and, Bool.and_self, cond_true, Bool.cond_self, beq_self_eq_true, Nat.le_refl, ↓vsp_nil, ↓vsp_cons, ↓vspK_eq, vspC_true, vspR_eq, pick_nil, pick_cons, pickO_some, creas_nil, agree_nil, agree_cons, agree1_some, sameAt_nil, sameAt_cons, Try.vt26, Try.vplaces26, Try.vzero26, dec_t]
  rfl
end Go.Proofs.Ytjiaadkncpajnaa

namespace Go.Proofs.Ytjiaadkncpajnaa
open Go.V Go
set_option maxRecDepth 100000
set_option linter.unusedSimpArgs false

theorem ins_endG (l : List Gr) (x : Gr) : cells encG l ++ cells encG [x] = cells encG (l.take l.length ++ x :: l.drop l.length) := by
  rw [List.take_length, List.drop_length, ← cells_app]
theorem ins_upG (l : List Gr) (i : Nat) (h : i < l.length) : splice (cells encG l) ((i + 1) * 4) (((cells encG l).drop (i * 4)).take ((l.length - i) * 4)) = cells encG (l.take (i + 1) ++ l.drop i) := by
  have e1 : (cells encG l).drop (i * 4) = cells encG (l.drop i) := by have := cells_drop encG l i; simpa [encG] using this
  have e2 : (cells encG (l.drop i)).take ((l.length - i) * 4) = cells encG (l.drop i) := cells_all encG _ _ (by rw [List.length_drop]; show _ = (l.length - i) * 4; omega)
  have e3 := splice_cells encG l (l.drop i) (i + 1)
  rw [List.drop_of_length_le (i := i + 1 + (l.drop i).length) (by rw [List.length_drop]; omega), List.append_nil] at e3
  rw [e1, e2, ← e3]
  rfl
theorem ins_inG (l : List Gr) (x : Gr) (i : Nat) (h : i < l.length) : splice (cells encG (l.take (i + 1) ++ l.drop i)) (i * 4) (cells encG [x]) = cells encG (l.take i ++ x :: l.drop i) := by
  have e3 := splice_cells encG (l.take (i + 1) ++ l.drop i) [x] i
  have e1 : (l.take (i + 1) ++ l.drop i).take i = l.take i := by rw [List.take_append_of_le_length (by rw [List.length_take]; omega), List.take_take, Nat.min_eq_left (by omega)]
  have e2 : (l.take (i + 1) ++ l.drop i).drop (i + 1) = l.drop i := by rw [List.drop_append_of_le_length (by rw [List.length_take]; omega), List.drop_of_length_le (by rw [List.length_take]; omega), List.nil_append]
  rw [e1, show i + [x].length = i + 1 from rfl, e2, List.append_assoc] at e3
  exact e3
theorem ins_g1G (l : List Gr) (i m : Nat) : (cells encG l).take (i * 4) ++ mk [.pv (.lit (.int .i64 0)), .pv (.lit (.int .i64 0)), .pv (.lit (.int .i64 0)), .pv (.lit (.int .i64 0))] m = cells encG (l.take i ++ List.replicate m Gr0) := by
  have e1 := cells_take encG l i
  have e2 : mk [.pv (.lit (.int .i64 0)), .pv (.lit (.int .i64 0)), .pv (.lit (.int .i64 0)), .pv (.lit (.int .i64 0))] m = cells encG (List.replicate m Gr0) := mk_cells encG Gr0 m
  rw [e2, cells_app, ← e1]
  rfl
theorem ins_g1bG (l : List Gr) (i m : Nat) : (cells encG l).take (i * 4) ++ cells encG (List.replicate m Gr0) = cells encG (l.take i ++ List.replicate m Gr0) := by
  have e1 := ins_g1G l i m
  have e2 : mk [.pv (.lit (.int .i64 0)), .pv (.lit (.int .i64 0)), .pv (.lit (.int .i64 0)), .pv (.lit (.int .i64 0))] m = cells encG (List.replicate m Gr0) := mk_cells encG Gr0 m
  rwa [e2] at e1
theorem ins_g2G (l : List Gr) (x : Gr) (i : Nat) (h : i < l.length) : splice (cells encG (l.take i ++ List.replicate (l.length + 1 - i) Gr0)) (i * 4) (cells encG [x]) = cells encG (l.take i ++ x :: List.replicate (l.length - i) Gr0) := by
  have e3 := splice_cells encG (l.take i ++ List.replicate (l.length + 1 - i) Gr0) [x] i
  have hlt : (l.take i).length = i := by rw [List.length_take]; omega
  have e1 : (l.take i ++ List.replicate (l.length + 1 - i) Gr0).take i = l.take i := by rw [List.take_append_of_le_length (by omega), List.take_take, Nat.min_self]
  have e2 : (l.take i ++ List.replicate (l.length + 1 - i) Gr0).drop (i + 1) = List.replicate (l.length - i) Gr0 := by
    rw [List.drop_append, hlt, List.drop_of_length_le (by omega), List.nil_append, List.drop_replicate]
    congr 1; omega
  rw [e1, show i + [x].length = i + 1 from rfl, e2, List.append_assoc] at e3
  exact e3
theorem ins_g3G (l : List Gr) (x : Gr) (i : Nat) (h : i < l.length) : splice (cells encG (l.take i ++ x :: List.replicate (l.length - i) Gr0)) ((i + 1) * 4) (((cells encG l).drop (i * 4)).take ((l.length - i) * 4)) = cells encG (l.take i ++ x :: l.drop i) := by
  have e1 : (cells encG l).drop (i * 4) = cells encG (l.drop i) := by have := cells_drop encG l i; simpa [encG] using this
  have e2 : (cells encG (l.drop i)).take ((l.length - i) * 4) = cells encG (l.drop i) := cells_all encG _ _ (by rw [List.length_drop]; show _ = (l.length - i) * 4; omega)
  have e3 := splice_cells encG (l.take i ++ x :: List.replicate (l.length - i) Gr0) (l.drop i) (i + 1)
  have hlt : (l.take i ++ [x]).length = i + 1 := by rw [List.length_append, List.length_take, List.length_singleton]; omega
  have ea : l.take i ++ x :: List.replicate (l.length - i) Gr0 = (l.take i ++ [x]) ++ List.replicate (l.length - i) Gr0 := by simp
  have e4 : (l.take i ++ x :: List.replicate (l.length - i) Gr0).take (i + 1) = l.take i ++ [x] := by rw [ea, List.take_append_of_le_length (by omega), List.take_of_length_le (by omega)]
  rw [e4, List.drop_of_length_le (i := i + 1 + (l.drop i).length) (by rw [ea, List.length_append, hlt, List.length_replicate, List.length_drop]; omega), List.append_nil] at e3
  have e5 : l.take i ++ x :: l.drop i = l.take i ++ [x] ++ l.drop i := by simp
  rw [e1, e2, e5, ← e3]
  rfl
theorem one_lenG (x : Gr) : (cells encG [x]).length = 4 := by rw [cells_len]; rfl
set_option maxHeartbeats 2000000 in
theorem insertG_v (l : List Gr) (x : Gr) (i : Nat) (hi : i ≤ l.length) (hl : l.length ≤ 1000000) :
    VCalls Try.prog 35 [.own 0 4 0 l.length, .int .i64 i, .own 1 4 0 1] [⟨33, true, cells encG l⟩, ⟨33, true, cells encG [x]⟩]
      (NewSl noK [⟨33, true, cells encG l⟩, ⟨33, true, cells encG [x]⟩] 4 (l.length + 1) 33 (cells encG (l.take i ++ x :: l.drop i))) := by
  refine VCalls.newSl ?_
  have hcl : (cells encG l).length = l.length * 4 := cells_len encG l
  have hc1 := one_lenG x
  by_cases he : i = l.length
  · subst he
    refine vcalls_keep (fn := Try.f35) Try.func35 rfl (by kernel_rfl) (by simp [Try.f35]) ?_
    have hb : (l.length + 1) * 32 ≤ 140737488355328 := by omega
    have hta : (cells encG l).take (l.length * 4) = cells encG l := cells_all encG l _ (by show _ = l.length * 4; omega)
    have ht1 : (cells encG [x]).take 4 = cells encG [x] := cells_all encG [x] _ rfl
    simp (config := { maxSteps := 2000000 }) (implicitDefEqProofs := false) (disch := first | omega | assumption | (simp only [List.length_cons, List.length_nil, Nat.zero_add, Nat.reduceAdd]; done) | (simp only [IntKind.wrap_i64]; omega) | (simp only [List.length_replicate, List.length_set, List.length_append, List.length_cons, List.length_nil, List.length_take, List.length_drop, List.length_map] <;> omega) | fail) only [vop_move, vcallee_move, vop_assign, vcallee_assign, vop_binOp, vcallee_binOp, vop_slice, vcallee_slice, vop_builtin, vcallee_builtin, bin2_tmp, bin2_int, strip_pv, strip_own, optV_none, ev_tmp, ev_const, ofConst_int, ofConst_slice, put_some, at_mk, fits_some, ↓look_cons, ↓vlook_t, ↓vlook_f, guard_none, ↓vrun_nil, ↓code_skip, ↓code_region, ↓code_seq, ↓code_ret, ↓onNormal_normal, ↓onNormal_ret, res_one, vres_tmp, blk_zero, blk_succ, bin_int, int_eql, vlk_sl, len_own, bi_len, bi_append, ap2_own, vslo_end, slice_own_lo, enum_nil, enum_cons, evG_eq, ↓vrun_cons, ↓run1_some, ↓run2_none, ↓run3_some, ↓code_cond, ↓vtest_bool, ↓vbr_true, ↓vbr_false, ↓keep_ret, vfinK_some, at_hp, slice_own, List.map_nil, vsrc, vbase, vappend, V.kill, List.toList_toArray, List.getElem?_cons_zero, List.length_cons, List.length_nil, List.map_cons, List.map_nil, List.cons_append, List.nil_append, List.drop_zero, List.set_cons_zero, Option.map_some, Option.map_none, ↓reduceIte, Nat.reduceAdd, Nat.reduceLT, Nat.reduceBEq, Int.reduceLT, Int.reduceAdd, Int.reduceBEq, Int.toNat_natCast, Nat.zero_add, Nat.one_mul, true_and, and_self, Bool.true_and, Bool.and_self, cond_true, Bool.cond_self, beq_self_eq_true, Nat.le_refl, Try.velem24, Try.notInt24, Try.vkind24, Try.vzero33, Try.bytes33, dec_t, int_beq_f, Try.f35, hcl, hc1, hta, ht1, hb]
    exact ⟨by simp, .inr ⟨_, .inl rfl, by simp, by rw [← ins_endG]; rfl, cells_nums _ _ _⟩⟩
  · have hlt : i < l.length := by omega
    refine VCalls.room (by omega) fun cap hcap => ?_
    by_cases hr : l.length + 1 ≤ cap
    · have hr1 : ¬ (cap : Int) < (l.length : Int) + 1 := by omega
      have hi1 : i + 1 ≤ l.length + 1 := by omega
      have hic : i + 1 ≤ cap := by omega
      have hne : ¬ (i : Int) = l.length := by omega
      have ei : ((i : Int) + 1).toNat = i + 1 := by omega
      have el : ((l.length : Int) + 1).toNat = l.length + 1 := by omega
      refine vcalls_keep (fn := Try.f35) Try.func35 rfl (by kernel_rfl) (by simp [Try.f35]) ?_
      simp (config := { maxSteps := 2000000 }) (implicitDefEqProofs := false) (disch := first | omega | assumption | (simp only [List.length_cons, List.length_nil, Nat.zero_add, Nat.reduceAdd]; done) | (simp only [IntKind.wrap_i64]; omega) | (simp only [List.length_replicate, List.length_set, List.length_append, List.length_cons, List.length_nil, List.length_take, List.length_drop, List.length_map] <;> omega) | fail) only [vop_move, vcallee_move, vop_assign, vcallee_assign, vop_binOp, vcallee_binOp, vop_slice, vcallee_slice, vop_builtin, vcallee_builtin, vcallee_value, vcal_fn, bin2_tmp, bin2_int, strip_pv, strip_own, strip_fn, optV_none, ev_tmp, ev_const, ev_func, ofConst_int, ofConst_slice, put_some, at_mk, fits_some, ↓look_cons, ↓vlook_t, ↓vlook_f, guard_none, ↓vrun_nil, ↓code_skip, ↓code_region, ↓code_seq, ↓onNormal_normal, strip_ownc, bin_int, int_add, int_eql, int_gtr, vlk_sl, len_own, bi_len, bi_cap, cap_ownc, vck_sl, len_ownc, slice_ownc, slice_ownc_hi, slice_ownc_lo, vslc0_some, vslc_some, enum_nil, enum_cons, evG_eq, ↓vrun_cons, ↓run1_some, ↓run2_none, ↓run2_some, ↓run3_some, ↓vcg_none, ↓code_cond, ↓vtest_bool, ↓vbr_false, at_hp, List.map_nil, List.toList_toArray, List.length_cons, List.length_nil, List.map_cons, List.map_nil, List.nil_append, List.append_nil, Option.map_some, Option.map_none, Nat.reduceAdd, Nat.reduceLT, Nat.reduceBEq, Int.reduceLT, Int.reduceAdd, Int.reduceBEq, Int.toNat_natCast, Nat.zero_add, decide_false, true_and, Bool.true_and, Bool.cond_self, beq_self_eq_true, Try.velem24, Try.vkind24, wrap_i64_in, dec_t, int_beq_f, Try.f35, hr1, Int.natCast_one, ei, el]
      refine (vcalls_apart (k := 1) (k2 := 0) (fn := Try.f60) (tS := 24) (tR := 4) (e := 33) (n := 4) Try.func60 (by kernel_rfl) rfl (by kernel_rfl) (by kernel_rfl) (by kernel_rfl) rfl rfl rfl rfl (by decide) (by omega) (by show 0 < (cells encG l).length; omega)).mono ?_
      rintro r h' ⟨rfl, rfl⟩
      simp (config := { maxSteps := 2000000 }) (implicitDefEqProofs := false) (disch := first | omega | assumption | (simp only [List.length_cons, List.length_nil, Nat.zero_add, Nat.reduceAdd]; done) | (simp only [IntKind.wrap_i64]; omega) | (simp only [List.length_replicate, List.length_set, List.length_append, List.length_cons, List.length_nil, List.length_take, List.length_drop, List.length_map] <;> omega) | fail) only [vop_unOp, vcallee_unOp, strip_pv, optV_none, ev_tmp, put_some, at_mk, fits_some, ↓look_cons, ↓vlook_t, guard_none, ↓vrun_nil, ↓code_draw, ↓code_seq, ↓onNormal_normal, un_not, evG_eq, ↓vrun_cons, ↓run1_some, ↓run2_none, ↓run3_some, ↓runK_eq, ↓code_cond, ↓vtest_bool, ↓vbr_true, at_hp, Option.map_some, Nat.reduceLT, Int.reduceLT, true_and, Bool.not_false, Bool.true_and, Bool.cond_self, beq_self_eq_true, dec_t]
      refine vspine [0, 1, 2, 3, 4, 5, 6, 7] [⟨[], [], 8, [0, 1, 2, 3, 5, 6], []⟩] (by kernel_rfl) (by kernel_rfl) ?_
      have hmin : min (l.length + 1 - i) (l.length + 1 - (i + 1)) = l.length - i := by omega
      have hmin2 : min 1 (l.length + 1 - i) = 1 := by omega
      have hof : (i + 1) * 4 ≤ l.length * 4 := by omega
      have hle : (l.length - i) * 4 ≤ l.length * 4 - i * 4 := by omega
      have hup := ins_upG l i hlt
      have hin := ins_inG l x i hlt
      have hl2 : (cells encG (l.take (i + 1) ++ l.drop i)).length = (l.length + 1) * 4 := by rw [cells_len, List.length_append, List.length_take, List.length_drop]; show _ * 4 = _; omega
      have hof2 : i * 4 ≤ (l.length + 1) * 4 := by omega
      have ht1 : (cells encG [x]).take 4 = cells encG [x] := cells_all encG [x] _ rfl
      simp (config := { maxSteps := 2000000 }) (implicitDefEqProofs := false) (disch := first | omega | assumption | (simp only [List.length_cons, List.length_nil, Nat.zero_add, Nat.reduceAdd]; done) | (simp only [IntKind.wrap_i64]; omega) | (simp only [List.length_replicate, List.length_set, List.length_append, List.length_cons, List.length_nil, List.length_take, List.length_drop, List.length_map] <;> omega) | fail) only [vop_move, vcallee_move, foot_move, vop_assign, vcallee_assign, vop_binOp, vcallee_binOp, foot_binOp, vop_slice, vcallee_slice, vop_builtin, vcallee_builtin, bin2_tmp, strip_pv, strip_own, optV_none, ev_tmp, put_some, at_mk, fits_some, ↓look_cons, ↓vlook_t, ↓vlook_f, guard_none, ↓vrun_nil, ↓code_region, ↓code_seq, ↓code_ret, ↓onNormal_normal, ↓onNormal_ret, strip_ownc, res_one, vres_tmp, blk_zero, blk_succ, set_zero, bin_int, int_add, cp2_co, cp2_cc, slice_ownc, slice_ownc_lo, vslc_some, bi_copy, evG_eq, ↓vrun_cons, ↓run1_some, ↓run2_none, ↓run3_some, ↓keep_ret, vfinK_some, at_hp, List.map_nil, vsrc, vcopyC, srcL, dstC, List.getElem?_cons_zero, List.getElem?_cons_succ, List.map_cons, List.map_nil, List.nil_append, List.drop_zero, Option.map_some, Option.map_none, ↓reduceIte, Nat.reduceLT, Nat.reduceBEq, Int.reduceLT, Int.reduceBEq, Int.toNat_natCast, Nat.zero_add, Nat.one_mul, true_and, and_self, Bool.true_and, Bool.and_self, cond_true, Bool.cond_self, beq_self_eq_true, Nat.le_refl, ↓vsp_nil, ↓vsp_cons, ↓vspK_eq, vspC_true, vspR_eq, pick_nil, pick_cons, pickO_some, creas_nil, agree_nil, agree_cons, agree1_some, sameAt_nil, Try.velem24, wrap_i64_in, dec_t, hcl, hc1, Int.natCast_one, ei, hmin, hmin2, hof, hle, List.length_drop, hup, hin, hl2, hof2, ht1]
      exact ⟨by simp, .inr ⟨0, .inr ⟨cap, by omega, rfl⟩, by simp, rfl, cells_nums _ _ _⟩⟩
    · have hr1 : (cap : Int) < (l.length : Int) + 1 := by omega
      have hne : ¬ (i : Int) = l.length := by omega
      have ei : ((i : Int) + 1).toNat = i + 1 := by omega
      have eL : ((l.length : Int) + 1 - i).toNat = l.length + 1 - i := by omega
      have eS : i + (l.length + 1 - i) = l.length + 1 := by omega
      have hb : (l.length + 1) * 32 ≤ 140737488355328 := by omega
      have hcz : cap < l.length + 1 := by omega
      have hl0 : (0 : Int) < (l.length : Int) + 1 - i := by omega
      have hlz : (l.length : Int) + 1 - i ≤ 1000000000 := by omega
      have hoi : i * 4 ≤ l.length * 4 := by omega
      have hic : i ≤ cap := by omega
      have hg1 := ins_g1G l i (l.length + 1 - i)
      have hg1b := ins_g1bG l i (l.length + 1 - i)
      have hg2 := ins_g2G l x i hlt
      have hg3 := ins_g3G l x i hlt
      have hmin : min 1 (l.length + 1 - i) = 1 := by omega
      have hmin2 : min (l.length - i) (l.length + 1 - (i + 1)) = l.length - i := by omega
      have hl1 : (cells encG (l.take i ++ List.replicate (l.length + 1 - i) Gr0)).length = (l.length + 1) * 4 := by rw [cells_len, List.length_append, List.length_take, List.length_replicate]; show _ * 4 = _; omega
      have hl2 : (cells encG (l.take i ++ x :: List.replicate (l.length - i) Gr0)).length = (l.length + 1) * 4 := by rw [cells_len, List.length_append, List.length_take, List.length_cons, List.length_replicate]; show _ * 4 = _; omega
      have ht1 : (cells encG [x]).take 4 = cells encG [x] := cells_all encG [x] _ rfl
      have hf1 : i * 4 + (l.length + 1 - i) * 4 ≤ (l.length + 1) * 4 := by omega
      have hf2 : (i + 1) * 4 ≤ (l.length + 1) * 4 := by omega
      have hle : (l.length - i) * 4 ≤ l.length * 4 - i * 4 := by omega
      refine vcalls_keep (fn := Try.f35) Try.func35 rfl (by kernel_rfl) (by simp [Try.f35]) ?_
      simp (config := { maxSteps := 2000000 }) (implicitDefEqProofs := false) (disch := first | omega | assumption | (simp only [List.length_cons, List.length_nil, Nat.zero_add, Nat.reduceAdd]; done) | (simp only [IntKind.wrap_i64]; omega) | (simp only [List.length_replicate, List.length_set, List.length_append, List.length_cons, List.length_nil, List.length_take, List.length_drop, List.length_map] <;> omega) | fail) only [vop_move, vcallee_move, vop_assign, vcallee_assign, vop_binOp, vcallee_binOp, vop_slice, vcallee_slice, vop_builtin, vcallee_builtin, bin2_tmp, bin2_int, strip_pv, strip_own, optV_none, ev_tmp, ev_const, ofConst_int, ofConst_slice, put_some, at_mk, fits_some, ↓look_cons, ↓vlook_t, ↓vlook_f, guard_none, ↓vrun_nil, ↓code_skip, ↓code_region, ↓code_draw, ↓code_seq, ↓onNormal_normal, strip_ownc, blk_zero, blk_succ, set_zero, set_succ, allOne_nil, allOne_cons, one_pv, bin_int, int_add, int_sub, int_eql, int_gtr, vlk_sl, len_own, bi_len, bi_append, ap2_cz, vapz1_some, bi_cap, cap_ownc, vck_sl, cp2_oo, len_ownc, slice_ownc, slice_own_lo, slice_ownc_hi, slice_ownc_lo, vslo_some, vslc0_some, vslc_some, bi_copy, enum_nil, enum_cons, evG_eq, ↓vrun_cons, ↓run1_some, ↓run2_none, ↓run3_some, ↓code_cond, ↓vtest_bool, ↓vbr_true, ↓vbr_false, at_hp, slice_own, List.map_nil, vsrc, vcopy, vapz2, List.toList_toArray, List.getElem?_cons_zero, List.length_cons, List.length_nil, List.map_cons, List.map_nil, List.cons_append, List.nil_append, List.drop_zero, Option.map_some, Option.map_none, ↓reduceIte, Nat.reduceAdd, Nat.reduceLT, Nat.reduceBEq, Int.reduceLT, Int.reduceAdd, Int.reduceBEq, Int.toNat_natCast, Nat.zero_add, Nat.one_mul, true_and, and_self, Bool.true_and, Bool.and_self, cond_true, Bool.cond_self, beq_self_eq_true, Nat.le_refl, Try.vkind3, Try.velem24, Try.vkind24, Try.vzero33, Try.bytes33, wrap_i64_in, dec_t, int_beq_f, Try.f35, hcl, hc1, hr1, Int.natCast_one, eL, eS, hb, hcz, hl0, hlz, hoi, hg1, hg2, hmin, hl1, ht1, hf1]
      refine vspine [0, 1, 2, 3, 4, 5, 6, 7] [⟨[], [], 8, [0, 1, 2, 3, 5, 6], []⟩] (by kernel_rfl) (by kernel_rfl) ?_
      simp (config := { maxSteps := 2000000 }) (implicitDefEqProofs := false) (disch := first | omega | assumption | (simp only [List.length_cons, List.length_nil, Nat.zero_add, Nat.reduceAdd]; done) | (simp only [IntKind.wrap_i64]; omega) | (simp only [List.length_replicate, List.length_set, List.length_append, List.length_cons, List.length_nil, List.length_take, List.length_drop, List.length_map] <;> omega) | fail) only [vop_move, vcallee_move, foot_move, vop_assign, vcallee_assign, vop_binOp, vcallee_binOp, foot_binOp, vop_slice, vcallee_slice, vop_builtin, vcallee_builtin, bin2_tmp, strip_pv, strip_own, optV_none, ev_tmp, put_some, at_mk, fits_some, ↓look_cons, ↓vlook_t, ↓vlook_f, guard_none, ↓vrun_nil, ↓code_region, ↓code_seq, ↓code_ret, ↓onNormal_normal, ↓onNormal_ret, strip_ownc, res_one, vres_tmp, blk_zero, blk_succ, set_zero, set_succ, bin_int, int_add, cp2_oc, slice_ownc, slice_own_lo, slice_ownc_lo, vslo_some, vslc_some, bi_copy, evG_eq, ↓vrun_cons, ↓run1_some, ↓run2_none, ↓run3_some, ↓keep_ret, vfinK_some, at_hp, slice_own, List.map_nil, vcopyC, srcL, dstC, List.getElem?_cons_zero, List.getElem?_cons_succ, List.map_cons, List.map_nil, List.nil_append, Option.map_some, Option.map_none, ↓reduceIte, Nat.reduceLT, Nat.reduceBEq, Int.reduceLT, Int.reduceBEq, Int.toNat_natCast, Nat.zero_add, true_and, and_self, Bool.true_and, Bool.and_self, cond_true, Bool.cond_self, beq_self_eq_true, ↓vsp_nil, ↓vsp_cons, ↓vspK_eq, vspC_true, vspR_eq, pick_nil, pick_cons, pickO_some, creas_nil, agree_nil, agree_cons, agree1_some, sameAt_nil, Try.velem24, wrap_i64_in, dec_t, hcl, ei, hg3, hmin2, hl2, hf2, hle, List.length_drop]
      exact ⟨by simp, .inr ⟨2, .inl rfl, by simp, rfl, cells_nums _ _ _⟩⟩
end Go.Proofs.Ytjiaadkncpajnaa

namespace Go.Proofs.Ytjiaadkncpajnaa
open Go.V Go
set_option maxRecDepth 100000
set_option linter.unusedSimpArgs false

theorem frzC_G {n : Nat} {hp : Heap} {len : Nat} {l : List Gr} (h : l.length = len) : frzC n hp 0 4 len (some (cells encG l)) = some (.sl (fz encG l)) := frzC_cells encG h
theorem fnum_t {l : List Gr} {g : Gr} (h : ffound l g.tx g.pg g.sl = true) : fnum l g = 1 := by simp [fnum, h]
theorem fnum_f {l : List Gr} {g : Gr} (h : ffound l g.tx g.pg g.sl = false) : fnum l g = 0 := by simp [fnum, h]
theorem holdS_f {l : List Gr} {g : Gr} (h : ffound l g.tx g.pg g.sl = false) : holdS l g = l.take (floG l g.tx g.pg g.sl) ++ g :: l.drop (floG l g.tx g.pg g.sl) := by
  rw [holdS, fnum_f h]; rfl
theorem holdS_t {l : List Gr} {g : Gr} (h : ffound l g.tx g.pg g.sl = true) : holdS l g = l.set (floG l g.tx g.pg g.sl) g := by
  obtain ⟨h1, _⟩ := (ffound_iff _ _ _ _).1 h
  rw [holdS, fnum_t h, List.set_eq_take_append_cons_drop, if_pos h1]; rfl
theorem G_md (l : List Gr) (g : Gr) (h : ffound l g.tx g.pg g.sl = true) : (cells encG l).set (floG l g.tx g.pg g.sl * 4 + 3) (.pv (.lit (.int .i64 g.md))) = cells encG (holdS l g) := by
  obtain ⟨h1, h2⟩ := (ffound_iff _ _ _ _).1 h
  rw [keyB_eq] at h2
  rw [holdS_t h]
  generalize floG l g.tx g.pg g.sl = k at *
  obtain ⟨a, b, x, hl, rfl, hx⟩ : ∃ a b x, l = a ++ x :: b ∧ a.length = k ∧ l[k] = x := ⟨l.take k, l.drop (k + 1), l[k], by simp, by simp; omega, rfl⟩
  rw [hx] at h2
  clear hx
  subst hl
  rw [List.set_append_right _ _ (Nat.le_refl _), Nat.sub_self, List.set_cons_zero, cells_app, cells_app, cells_cons, cells_cons]
  have hl : (cells encG a).length = a.length * 4 := cellsG_len a
  obtain ⟨tx, pg, sl, md⟩ := x
  obtain ⟨tx', pg', sl', md'⟩ := g
  obtain ⟨rfl, rfl, rfl⟩ := h2
  have e1 : ∀ x : Gr, (encG.enc x).map DV.pv = [.pv (.lit (.int .i64 x.tx)), .pv (.lit (.int .i64 x.pg)), .pv (.lit (.int .i64 x.sl)), .pv (.lit (.int .i64 x.md))] := fun _ => rfl
  rw [e1, e1, ← hl]
  generalize cells encG a = A
  generalize cells encG b = B
  rw [List.set_append_right _ _ (by omega), show A.length + 3 - A.length = 3 by omega]
  rfl
structure SO (t0 : Lk) where
  t : Lk
  good : t.Good
  st : t.settle = t0.settle
  sum : t.held.length + t.wait.length ≤ 5000
  c : Bool
  q : Bool
  hq : q = true → ∀ k, k < t.wait.length → t.blkB k = true
  hc : c = false → q = true
structure SI (t0 : Lk) (q : Bool) where
  t : Lk
  good : t.Good
  st : t.settle = t0.settle
  sum : t.held.length + t.wait.length ≤ 5000
  c : Bool
  i : Nat
  hi : i ≤ t.wait.length
  blk : ∀ k, k < i → t.blkB k = true
  hq : q = true → c = false ∧ ∀ k, k < t.wait.length → t.blkB k = true
def SO.start {t : Lk} (g : t.Good) (h : t.held.length + t.wait.length ≤ 5000) : SO t := ⟨t, g, rfl, h, true, false, nofun, nofun⟩
def SO.inn {t0 : Lk} (s : SO t0) : SI t0 s.q := ⟨s.t, s.good, s.st, s.sum, false, 0, Nat.zero_le _, fun k h => by omega, fun h => ⟨rfl, s.hq h⟩⟩
def SI.next {t0 : Lk} {q : Bool} (s : SI t0 q) (h : s.i < s.t.wait.length) (hb : s.t.blkB s.i = true) : SI t0 q := ⟨s.t, s.good, s.st, s.sum, s.c, s.i + 1, h, fun k hk => by
  rcases Nat.lt_or_ge k s.i with hlt | hge
  · exact s.blk k hlt
  · obtain rfl : k = s.i := by omega
    exact hb, s.hq⟩
def SI.move {t0 : Lk} {q : Bool} (s : SI t0 q) (h : s.i < s.t.wait.length) (hb : s.t.blkB s.i = false) : SI t0 q := ⟨s.t.mv s.i, s.good.mv h hb, by rw [← s.st]; exact (Lk.settle_some (Lk.first_some h hb s.blk)).symm, Nat.le_trans (Lk.mv_sum _ _ h) s.sum, true, s.i, by rw [Lk.mv_len _ _ h]; omega, fun k hk => s.good.still h k hk (s.blk k hk), fun h2 => by have := (s.hq h2).2 s.i h; rw [hb] at this; cases this⟩
def SI.out {t0 : Lk} {q : Bool} (s : SI t0 q) (h : ¬ s.i < s.t.wait.length) : SO t0 := ⟨s.t, s.good, s.st, s.sum, s.c, true, fun _ k hk => s.blk k (by omega), fun _ => rfl⟩
theorem SO.fin {t0 : Lk} (s : SO t0) (h : s.c = false) : s.t = t0.settle := by
  rw [← s.st]; exact (Lk.settle_none (Lk.first_none (s.hq (s.hc h)))).symm
def SO.mu {t0 : Lk} (s : SO t0) : Nat := s.c.toNat + (!s.q).toNat
theorem SI.mu_out {t0 : Lk} (o : SO t0) (s : SI t0 o.q) (h : ¬ s.i < s.t.wait.length) (hc : o.c = true) : (s.out h).mu < o.mu := by
  show s.c.toNat + 0 < o.c.toNat + (!o.q).toNat
  rw [hc]
  by_cases hq : o.q = true
  · rw [(s.hq hq).1, hq]; decide
  · have : o.q = false := by simpa using hq
    have e : (!o.q).toNat = 1 := by rw [this]; rfl
    have := Bool.toNat_le s.c
    rw [e]
    show s.c.toNat + 0 < 1 + 1
    omega
/-- A table under way: its two lists in their own blocks, behind those of the caller. -/
def hpS (t : Lk) : Heap := [⟨33, false, []⟩, ⟨33, false, []⟩, ⟨26, true, [.own 4 4 0 t.held.length, .own 5 4 0 t.wait.length]⟩, ⟨26, true, [.pv (.slc []), .pv (.slc [])]⟩, ⟨33, true, cells encG t.held⟩, ⟨33, true, cells encG t.wait⟩]
theorem settle_v (t : Lk) (hg : t.Good) (hs : t.held.length + t.wait.length ≤ 5000) : VCalls Try.prog 37 [.agg [.own 0 4 0 t.held.length, .own 1 4 0 t.wait.length]] [⟨33, true, cells encG t.held⟩, ⟨33, true, cells encG t.wait⟩] (fun r h' => r = t.settle.d ∧ h' = [⟨33, false, []⟩, ⟨33, false, []⟩]) := by
  refine vcalls_drop (fn := Try.f37) Try.func37 rfl (by kernel_rfl) (by simp [Try.f37]) ?_
  simp (config := { maxSteps := 2000000 }) (implicitDefEqProofs := false) (disch := first | omega | assumption | (simp only [List.length_cons, List.length_nil, Nat.zero_add, Nat.reduceAdd]; done) | (simp only [IntKind.wrap_i64]; omega) | (simp only [List.length_replicate, List.length_set, List.length_append, List.length_cons, List.length_nil, List.length_take, List.length_drop, List.length_map] <;> omega) | fail) only [vop_assign, vcallee_assign, vop_alloc, vcallee_alloc, vop_box, vcallee_box, strip_pv, strip_agg, optV_none, ev_tmp, ev_const, ofConst_bool, put_some, at_mk, fits_some, ↓look_cons, ↓vlook_t, guard_none, ↓vrun_nil, ↓code_region, ↓code_seq, ↓code_block, ↓code_loop, ↓onNormal_normal, box_eq, alloc_eq, val1_some, allOne_nil, allOne_cons, one_pv, one_own, enum_nil, enum_cons, evG_eq, ↓vrun_cons, ↓run1_some, ↓run2_none, ↓run3_some, at_hp, dcells, List.toList_toArray, List.length_cons, List.length_nil, List.cons_append, List.nil_append, ↓reduceIte, Nat.reduceAdd, Nat.reduceLT, Int.reduceLT, Int.reduceAdd, Nat.zero_add, true_and, and_self, Bool.true_and, Bool.and_self, cond_true, Bool.cond_self, beq_self_eq_true, Try.vzero26, dec_t, Try.f37]
  refine VLoop.move [2, 3, 0, 1] [33, 33] [(3, .bool true), (2, .ptr 3 0), (1, .ptr 2 0)] [⟨26, true, [.own 4 4 0 t.held.length, .own 5 4 0 t.wait.length]⟩, ⟨26, true, [.pv (.slc []), .pv (.slc [])]⟩, ⟨33, true, cells encG t.held⟩, ⟨33, true, cells encG t.wait⟩] rfl (by decide) ⟨⟨_, rfl, rfl, rfl, .inr ⟨rfl, rfl⟩⟩, ⟨_, rfl, rfl, rfl, .inr ⟨rfl, rfl⟩⟩, ⟨_, rfl, rfl, rfl, .inl ⟨cells_nums _ _ _, rfl⟩⟩, ⟨_, rfl, rfl, rfl, .inl ⟨cells_nums _ _ _, rfl⟩⟩, trivial⟩ ⟨⟨rfl, rfl⟩, ⟨rfl, rfl⟩, ⟨rfl, rfl⟩, trivial⟩ ?_
  refine vloopW (fun s : SO t => ⟨57, 2, [(3, .bool s.c), (2, .ptr 3 0), (1, .ptr 2 0)], hpS s.t⟩) SO.mu (SO.start hg hs) (by exact (by refine gc_of (keep := [0, 1, 2, 3, 4, 5]) rfl rfl rfl (by decide) ?_ ?_ <;> (repeat' apply And.intro) <;> first | trivial | rfl | exact ⟨_, rfl, rfl, rfl, .inl ⟨rfl, rfl⟩⟩ | exact ⟨_, rfl, rfl, rfl, .inl ⟨cells_nums _ _ _, rfl⟩⟩ | exact ⟨_, rfl, rfl, rfl, .inl ⟨pvs_nums _ _, rfl⟩⟩ | exact ⟨_, rfl, rfl, rfl, .inr ⟨rfl, rfl⟩⟩)) ?_
  intro o
  unfold hpS
  simp (config := { maxSteps := 2000000 }) (implicitDefEqProofs := false) (disch := first | omega | assumption | (simp only [List.length_cons, List.length_nil, Nat.zero_add, Nat.reduceAdd]; done) | (simp only [IntKind.wrap_i64]; omega) | (simp only [List.length_replicate, List.length_set, List.length_append, List.length_cons, List.length_nil, List.length_take, List.length_drop, List.length_map] <;> omega) | fail) only [vop_move, vcallee_move, strip_pv, optV_none, ev_tmp, put_some, at_mk, fits_some, ↓look_cons, ↓vlook_t, guard_none, ↓vrun_nil, ↓code_region, ↓code_seq, ↓onNormal_normal, evG_eq, ↓vrun_cons, ↓run1_some, ↓run2_none, ↓run3_some, ↓code_cond, ↓vtest_bool, Nat.reduceLT, Int.reduceLT, true_and, Bool.true_and, Bool.cond_self, beq_self_eq_true, dec_t]
  refine vbr_split (fun hoc => ?_) (fun hoc => ?_)
  · simp (config := { maxSteps := 2000000 }) (implicitDefEqProofs := false) (disch := first | omega | assumption | (simp only [List.length_cons, List.length_nil, Nat.zero_add, Nat.reduceAdd]; done) | (simp only [IntKind.wrap_i64]; omega) | (simp only [List.length_replicate, List.length_set, List.length_append, List.length_cons, List.length_nil, List.length_take, List.length_drop, List.length_map] <;> omega) | fail) only [vop_assign, vcallee_assign, strip_pv, optV_none, ev_const, ofConst_int, ofConst_bool, put_some, at_mk, fits_some, guard_none, ↓vrun_nil, ↓code_skip, ↓code_region, ↓code_seq, ↓code_block, ↓code_loop, ↓onNormal_normal, evG_eq, ↓vrun_cons, ↓run1_some, ↓run2_none, ↓run3_some, Nat.reduceLT, Int.reduceLT, true_and, Bool.true_and, Bool.cond_self, dec_t]
    refine vloopW (fun s : SI t o.q => ⟨57, 2, [(4, .int .i64 s.i), (3, .bool s.c), (2, .ptr 3 0), (1, .ptr 2 0)], hpS s.t⟩) (fun s => 2 * s.t.wait.length - s.i) o.inn (by exact (by refine gc_of (keep := [0, 1, 2, 3, 4, 5]) rfl rfl rfl (by decide) ?_ ?_ <;> (repeat' apply And.intro) <;> first | trivial | rfl | exact ⟨_, rfl, rfl, rfl, .inl ⟨rfl, rfl⟩⟩ | exact ⟨_, rfl, rfl, rfl, .inl ⟨cells_nums _ _ _, rfl⟩⟩ | exact ⟨_, rfl, rfl, rfl, .inl ⟨pvs_nums _ _, rfl⟩⟩ | exact ⟨_, rfl, rfl, rfl, .inr ⟨rfl, rfl⟩⟩)) ?_
    intro s
    have hi := s.hi
    have hsum := s.sum
    have hsm : s.t.sm := ⟨by omega, by omega⟩
    unfold hpS
    simp (config := { maxSteps := 2000000 }) (implicitDefEqProofs := false) (disch := first | omega | assumption | (simp only [List.length_cons, List.length_nil, Nat.zero_add, Nat.reduceAdd]; done) | (simp only [IntKind.wrap_i64]; omega) | (simp only [List.length_replicate, List.length_set, List.length_append, List.length_cons, List.length_nil, List.length_take, List.length_drop, List.length_map] <;> omega) | fail) only [vop_move, vcallee_move, vop_load, vcallee_load, vop_binOp, vcallee_binOp, vop_fieldAddr, vcallee_fieldAddr, vop_builtin, vcallee_builtin, bin2_tmp, strip_pv, strip_ptr, strip_own, optV_none, ev_tmp, put_some, at_mk, fits_some, ↓look_cons, ↓vlook_t, ↓vlook_f, guard_none, ↓vrun_nil, ↓code_region, ↓code_seq, ↓onNormal_normal, load_ptr, vld_one, blk_zero, blk_succ, faddr_ptr, vfap_some, bin_int, int_lss, vlk_sl, len_own, bi_len, evG_eq, ↓vrun_cons, ↓run1_some, ↓run2_none, ↓run3_some, ↓code_cond, ↓vtest_bool, at_hp, List.map_nil, List.getElem?_cons_zero, List.getElem?_cons_succ, List.map_cons, List.map_nil, Option.map_some, ↓reduceIte, reduceCtorEq, Nat.reduceLT, Nat.reduceBEq, Int.reduceLT, Int.reduceBEq, Nat.zero_add, true_and, Bool.true_and, Bool.cond_self, beq_self_eq_true, Try.vt24, Try.vkind24, Try.vfield26x1, dec_t]
    refine vbr_split (fun hc => ?_) (fun hc => ?_) <;> simp only [decide_eq_true_eq, decide_eq_false_iff_not, Bool.or_eq_true, Bool.and_eq_true, Bool.or_eq_false_iff, Bool.and_eq_false_imp, Bool.not_eq_true', Bool.not_eq_false', beq_iff_eq, beq_eq_false_iff_ne, bne_iff_ne, bne_eq_false_iff_eq, ne_eq] at hc
    · have hlt : s.i < s.t.wait.length := by omega
      have hbl := blocked_v s.t hsm s.i hlt
      unfold Lk.d at hbl
      simp (config := { maxSteps := 2000000 }) (implicitDefEqProofs := false) (disch := first | omega | assumption | (simp only [List.length_cons, List.length_nil, Nat.zero_add, Nat.reduceAdd]; done) | (simp only [IntKind.wrap_i64]; omega) | (simp only [List.length_replicate, List.length_set, List.length_append, List.length_cons, List.length_nil, List.length_take, List.length_drop, List.length_map] <;> omega) | fail) only [vop_move, vcallee_move, vop_load, vcallee_load, vcallee_value, vcal_fn, strip_pv, strip_ptr, strip_agg, strip_fn, optV_none, ev_tmp, ev_func, put_some, at_mk, fits_some, ↓look_cons, ↓vlook_t, ↓vlook_f, guard_none, ↓code_skip, ↓code_region, ↓code_seq, ↓code_block, ↓onNormal_normal, load_ptr, vld_agg, blk_zero, blk_succ, evG_eq, ↓vrun_cons, ↓run1_some, ↓run2_none, ↓run2_some, ↓run3_some, ↓vcg_none, at_hp, List.map_nil, List.length_cons, List.length_nil, List.map_cons, List.map_nil, List.nil_append, List.append_nil, List.take_succ_cons, List.take_nil, List.drop_zero, Option.map_some, ↓reduceIte, Nat.reduceAdd, Nat.reduceLT, Nat.reduceBEq, Int.reduceLT, Int.reduceAdd, Int.reduceBEq, Nat.zero_add, true_and, Bool.true_and, Bool.cond_self, beq_self_eq_true, Nat.le_refl, Try.vt26, dec_t]
      refine vc_lendA hbl (by simp (config := { maxSteps := 2000000 }) (implicitDefEqProofs := false) (disch := first | omega | assumption | (simp only [List.length_cons, List.length_nil, Nat.zero_add, Nat.reduceAdd]; done) | (simp only [IntKind.wrap_i64]; omega) | (simp only [List.length_replicate, List.length_set, List.length_append, List.length_cons, List.length_nil, List.length_take, List.length_drop, List.length_map] <;> omega) | fail) only [frz1_own, allSome_nil, allSome_cons, blk_zero, blk_succ, List.map_nil, List.map_cons, List.map_nil, Option.map_some, ↓reduceIte, Nat.reduceLT, Int.reduceLT, frzP_own, frzA_agg, frzB_ownE, frzA_pv, frzC_G rfl]) rfl ?_
      by_cases hb : s.t.blkB s.i = true
      · simp (config := { maxSteps := 2000000 }) (implicitDefEqProofs := false) (disch := first | omega | assumption | (simp only [List.length_cons, List.length_nil, Nat.zero_add, Nat.reduceAdd]; done) | (simp only [IntKind.wrap_i64]; omega) | (simp only [List.length_replicate, List.length_set, List.length_append, List.length_cons, List.length_nil, List.length_take, List.length_drop, List.length_map] <;> omega) | fail) only [vop_move, vcallee_move, vop_assign, vcallee_assign, vop_binOp, vcallee_binOp, bin2_int, strip_pv, optV_none, ev_tmp, ev_const, ofConst_int, put_some, at_mk, fits_some, ↓look_cons, ↓vlook_t, ↓vlook_f, guard_none, ↓vrun_nil, ↓code_region, ↓code_seq, ↓code_exit, ↓onNormal_normal, ↓onNormal_exit, ↓onBlock_exit, bin_int, int_add, evG_eq, ↓vrun_cons, ↓run1_some, ↓run2_none, ↓run3_some, ↓runK_eq, ↓code_cond, ↓vtest_bool, ↓vbr_true, at_hp, Option.map_some, ↓reduceIte, Nat.reduceLT, Nat.reduceBEq, Int.reduceLT, Int.reduceBEq, true_and, Bool.true_and, Bool.cond_self, beq_self_eq_true, wrap_i64_in, dec_t, hb]
        exact ⟨s.next hlt hb, by show 2 * s.t.wait.length - (s.i + 1) < 2 * s.t.wait.length - s.i; omega, (by refine gc_of (keep := [0, 1, 2, 3, 4, 5]) rfl rfl rfl (by decide) ?_ ?_ <;> (repeat' apply And.intro) <;> first | trivial | rfl | exact ⟨_, rfl, rfl, rfl, .inl ⟨rfl, rfl⟩⟩ | exact ⟨_, rfl, rfl, rfl, .inl ⟨cells_nums _ _ _, rfl⟩⟩ | exact ⟨_, rfl, rfl, rfl, .inl ⟨pvs_nums _ _, rfl⟩⟩ | exact ⟨_, rfl, rfl, rfl, .inr ⟨rfl, rfl⟩⟩)⟩
      · have hb' : s.t.blkB s.i = false := by simpa using hb
        have hgw : ((cells encG s.t.wait).drop (s.i * 4)).take 4 = [.pv (.lit (.int .i64 s.t.wait[s.i].tx)), .pv (.lit (.int .i64 s.t.wait[s.i].pg)), .pv (.lit (.int .i64 s.t.wait[s.i].sl)), .pv (.lit (.int .i64 s.t.wait[s.i].md))] := cells_at encG s.t.wait s.i hlt
        have hlw := cellsG_len s.t.wait
        have hlh := cellsG_len s.t.held
        have hb1 : s.i * 4 + 4 ≤ s.t.wait.length * 4 := by omega
        have hmv : s.t.mv s.i = ⟨holdS s.t.held s.t.wait[s.i], s.t.wait.take s.i ++ s.t.wait.drop (s.i + 1)⟩ := by rw [Lk.mv, getD_eq s.t.wait s.i hlt]
        have hmw := Lk.mv_len s.t s.i hlt
        have hfd := find_v s.t.held (by omega) s.good.srt s.t.wait[s.i].tx s.t.wait[s.i].pg s.t.wait[s.i].sl
        have fin : (s.move hlt hb').t = ⟨holdS s.t.held s.t.wait[s.i], s.t.wait.take s.i ++ s.t.wait.drop (s.i + 1)⟩ := hmv
        have fmu : 2 * (s.move hlt hb').t.wait.length - (s.move hlt hb').i < 2 * s.t.wait.length - s.i := by show 2 * (s.t.mv s.i).wait.length - s.i < _; omega
        have hwl : (s.t.wait.take s.i ++ s.t.wait.drop (s.i + 1)).length = s.t.wait.length - 1 := del_len _ _ hlt
        simp (config := { maxSteps := 2000000 }) (implicitDefEqProofs := false) (disch := first | omega | assumption | (simp only [List.length_cons, List.length_nil, Nat.zero_add, Nat.reduceAdd]; done) | (simp only [IntKind.wrap_i64]; omega) | (simp only [List.length_replicate, List.length_set, List.length_append, List.length_cons, List.length_nil, List.length_take, List.length_drop, List.length_map] <;> omega) | fail) only [vop_move, vcallee_move, vop_alloc, vcallee_alloc, vop_load, vcallee_load, vop_store, vcallee_store, vop_binOp, vcallee_binOp, vop_fieldAddr, vcallee_fieldAddr, vop_indexAddr, vcallee_indexAddr, vcallee_value, vcal_fn, bin2_int, strip_pv, strip_ptr, strip_own, strip_agg, strip_fn, optV_none, ev_tmp, ev_const, ev_func, ofConst_int, put_some, put_none, at_mk, fits_some, fits_none, ↓look_cons, ↓vlook_t, ↓vlook_f, guard_none, ↓vrun_nil, ↓code_skip, ↓code_region, ↓code_seq, ↓onNormal_normal, load_ptr, vld_one, vld_agg, store_ptr, vst_agg, blk_zero, blk_succ, set_zero, set_succ, alloc_eq, val1_some, allOne_nil, allOne_cons, one_pv, faddr_ptr, vfap_some, iaddr_own, viao_some, bin_int, int_add, evG_eq, ↓vrun_cons, ↓run1_some, ↓run2_none, ↓run2_some, ↓run3_some, ↓runK_eq, ↓vcg_none, ↓code_cond, ↓vtest_bool, ↓vbr_false, at_hp, List.map_nil, V.splice, List.getElem?_cons_zero, List.getElem?_cons_succ, List.length_cons, List.length_nil, List.map_cons, List.map_nil, List.cons_append, List.nil_append, List.append_nil, List.take_zero, List.drop_succ_cons, List.drop_nil, Option.map_some, ↓reduceIte, reduceCtorEq, Nat.reduceAdd, Nat.reduceLT, Nat.reduceBEq, Int.reduceLT, Int.reduceAdd, Int.reduceBEq, Int.toNat_natCast, Nat.zero_add, true_and, and_self, Bool.true_and, Bool.and_self, cond_true, Bool.cond_self, beq_self_eq_true, Nat.le_refl, Try.vt24, Try.velem24, Try.vfield26x1, Try.vt33, Try.vzero33, wrap_i64_in, dec_t, hb', hgw, hlw, hb1]
        refine vc_newP [5] [5] (deleteG_v s.t.wait s.i hlt (by omega)) rfl ⟨⟨by simp, cells_nums _ _ _⟩, trivial⟩ (by decide) rfl rfl rfl (cells_nums _ _ _) ?_
        simp (config := { maxSteps := 2000000 }) (implicitDefEqProofs := false) (disch := first | omega | assumption | (simp only [List.length_cons, List.length_nil, Nat.zero_add, Nat.reduceAdd]; done) | (simp only [IntKind.wrap_i64]; omega) | (simp only [List.length_replicate, List.length_set, List.length_append, List.length_cons, List.length_nil, List.length_take, List.length_drop, List.length_map] <;> omega) | fail) only [vop_load, vcallee_load, vop_store, vcallee_store, vop_fieldAddr, vcallee_fieldAddr, vcallee_value, vcal_fn, strip_pv, strip_ptr, strip_own, strip_agg, strip_fn, optV_none, ev_tmp, ev_func, put_some, put_none, at_mk, fits_some, fits_none, ↓look_cons, ↓vlook_t, ↓vlook_f, guard_none, ↓vrun_nil, ↓code_region, ↓code_seq, ↓onNormal_normal, load_ptr, vld_one, vld_agg, store_ptr, vst_one, blk_zero, blk_succ, set_zero, set_succ, one_own, faddr_ptr, vfap_some, evG_eq, ↓vrun_cons, ↓run1_some, ↓run2_none, ↓run2_some, ↓run3_some, ↓runK_eq, ↓vcg_none, at_hp, List.map_nil, V.kill, kills, List.getElem?_cons_zero, List.getElem?_cons_succ, List.length_cons, List.length_nil, List.map_cons, List.map_nil, List.cons_append, List.nil_append, List.append_nil, List.take_succ_cons, List.take_zero, List.drop_succ_cons, List.drop_zero, List.set_cons_zero, List.set_cons_succ, Option.map_some, ↓reduceIte, reduceCtorEq, Nat.reduceAdd, Nat.reduceLT, Nat.reduceLeDiff, Nat.reduceBEq, Int.reduceLT, Int.reduceAdd, Int.reduceBEq, Nat.zero_add, Nat.add_zero, true_and, and_self, Bool.true_and, Bool.and_self, cond_true, Bool.cond_self, beq_self_eq_true, Try.vt3, Try.vt24, Try.vfield26x0, Try.vfield26x1, Try.vt28, Try.vfield33x0, Try.vfield33x1, dec_t]
        refine vc_lendA hfd (by simp (config := { maxSteps := 2000000 }) (implicitDefEqProofs := false) (disch := first | omega | assumption | (simp only [List.length_cons, List.length_nil, Nat.zero_add, Nat.reduceAdd]; done) | (simp only [IntKind.wrap_i64]; omega) | (simp only [List.length_replicate, List.length_set, List.length_append, List.length_cons, List.length_nil, List.length_take, List.length_drop, List.length_map] <;> omega) | fail) only [frz1_own, allSome_nil, allSome_cons, blk_zero, blk_succ, List.map_nil, List.map_cons, List.map_nil, Option.map_some, ↓reduceIte, Nat.reduceLT, Int.reduceLT, frzP_own, frzA_agg, frzA_ownE, frzA_pv, frzB_pv, frzC_G rfl]) rfl ?_
        by_cases hf : ffound s.t.held s.t.wait[s.i].tx s.t.wait[s.i].pg s.t.wait[s.i].sl = true
        · have hflt := ((ffound_iff _ _ _ _).1 hf).1
          have hmd := G_md s.t.held s.t.wait[s.i] hf
          have hhl : (holdS s.t.held s.t.wait[s.i]).length = s.t.held.length := by rw [holdS_len, fnum_t hf]; omega
          have hb3 : floG s.t.held s.t.wait[s.i].tx s.t.wait[s.i].pg s.t.wait[s.i].sl * 4 + 3 < s.t.held.length * 4 := by omega
          simp (config := { maxSteps := 2000000 }) (implicitDefEqProofs := false) (disch := first | omega | assumption | (simp only [List.length_cons, List.length_nil, Nat.zero_add, Nat.reduceAdd]; done) | (simp only [IntKind.wrap_i64]; omega) | (simp only [List.length_replicate, List.length_set, List.length_append, List.length_cons, List.length_nil, List.length_take, List.length_drop, List.length_map] <;> omega) | fail) only [vop_move, vcallee_move, vop_assign, vcallee_assign, vop_load, vcallee_load, vop_store, vcallee_store, vop_fieldAddr, vcallee_fieldAddr, vop_indexAddr, vcallee_indexAddr, vop_extract, vcallee_extract, strip_pv, strip_ptr, strip_own, strip_tup, optV_none, ev_tmp, ev_const, ofConst_bool, put_some, put_none, at_mk, fits_some, fits_none, ↓look_cons, ↓vlook_t, ↓vlook_f, guard_none, ↓vrun_nil, ↓code_region, ↓code_seq, ↓onNormal_normal, ↓onBlock_normal, load_ptr, vld_one, store_ptr, vst_one, blk_zero, blk_succ, set_zero, set_succ, one_pv, faddr_ptr, vfap_some, iaddr_own, viao_some, ext_tup, evG_eq, ↓vrun_cons, ↓run1_some, ↓run2_none, ↓run3_some, ↓runK_eq, ↓code_cond, ↓vtest_bool, ↓vbr_true, at_hp, List.getElem?_cons_zero, List.getElem?_cons_succ, Option.map_some, ↓reduceIte, reduceCtorEq, Nat.reduceLT, Nat.reduceBEq, Int.reduceLT, Int.reduceBEq, Int.toNat_natCast, Nat.zero_add, Nat.add_zero, true_and, and_self, Bool.true_and, Bool.and_self, cond_true, Bool.cond_self, beq_self_eq_true, Try.vt3, Try.vt24, Try.velem24, Try.vfield26x0, Try.vfield33x2, dec_t, hf, hlh, hb3, hmd]
          refine ⟨s.move hlt hb', fmu, ?_⟩
          rw [fin]
          dsimp only
          rw [hhl, hwl]
          exact (by refine gc_of (keep := [0, 1, 2, 3, 4, 7]) rfl rfl rfl (by decide) ?_ ?_ <;> (repeat' apply And.intro) <;> first | trivial | rfl | exact ⟨_, rfl, rfl, rfl, .inl ⟨rfl, rfl⟩⟩ | exact ⟨_, rfl, rfl, rfl, .inl ⟨cells_nums _ _ _, rfl⟩⟩ | exact ⟨_, rfl, rfl, rfl, .inl ⟨pvs_nums _ _, rfl⟩⟩ | exact ⟨_, rfl, rfl, rfl, .inr ⟨rfl, rfl⟩⟩)
        · have hf' : ffound s.t.held s.t.wait[s.i].tx s.t.wait[s.i].pg s.t.wait[s.i].sl = false := by simpa using hf
          have hhl : (holdS s.t.held s.t.wait[s.i]).length = s.t.held.length + 1 := by rw [holdS_len, fnum_f hf']; omega
          simp (config := { maxSteps := 2000000 }) (implicitDefEqProofs := false) (disch := first | omega | assumption | (simp only [List.length_cons, List.length_nil, Nat.zero_add, Nat.reduceAdd]; done) | (simp only [IntKind.wrap_i64]; omega) | (simp only [List.length_replicate, List.length_set, List.length_append, List.length_cons, List.length_nil, List.length_take, List.length_drop, List.length_map] <;> omega) | fail) only [vop_move, vcallee_move, vop_assign, vcallee_assign, vop_buildSlice, vcallee_buildSlice, vop_load, vcallee_load, vop_fieldAddr, vcallee_fieldAddr, vop_extract, vcallee_extract, vcallee_value, vcal_fn, strip_pv, strip_ptr, strip_own, strip_agg, strip_tup, strip_fn, optV_none, ev_tmp, ev_func, put_some, at_mk, fits_some, ↓look_cons, ↓vlook_t, ↓vlook_f, guard_none, ↓vrun_nil, ↓code_region, ↓code_seq, ↓onNormal_normal, load_ptr, vld_one, vld_agg, blk_zero, blk_succ, allOne_nil, allOne_cons, one_pv, faddr_ptr, vfap_some, ext_tup, parts_nil, parts_cons, evG_eq, ↓vrun_cons, ↓run1_some, ↓run2_none, ↓run2_some, ↓run3_some, ↓runK_eq, ↓vcg_none, ↓code_cond, ↓vtest_bool, ↓vbr_false, at_hp, List.map_nil, dcells, vfill, vbuildSlice, V.mk, V.splice, List.getElem?_cons_zero, List.getElem?_cons_succ, List.length_cons, List.length_nil, List.map_cons, List.map_nil, List.cons_append, List.nil_append, List.append_nil, List.take_succ_cons, List.take_zero, List.take_nil, List.drop_succ_cons, List.drop_zero, List.drop_nil, Option.map_some, ↓reduceIte, reduceCtorEq, Nat.reduceAdd, Nat.reduceLT, Nat.reduceLeDiff, Nat.reduceBEq, Int.reduceLT, Int.reduceAdd, Int.reduceBEq, Nat.zero_add, Nat.add_zero, Nat.zero_mul, Nat.one_mul, true_and, and_self, Bool.true_and, Bool.and_self, cond_true, Bool.cond_self, beq_self_eq_true, Nat.le_refl, Try.vt24, Try.velem24, Try.vfield26x0, Try.vt33, Try.vzero33, dec_t, hf']
          refine vc_newP [4, 8] [4, 8] (insertG_v s.t.held s.t.wait[s.i] _ (flo_le _ _ _ _) (by omega)) rfl ⟨⟨by simp, cells_nums _ _ _⟩, ⟨by simp, rfl⟩, trivial⟩ (by decide) rfl rfl rfl (cells_nums _ _ _) ?_
          simp (config := { maxSteps := 2000000 }) (implicitDefEqProofs := false) (disch := first | omega | assumption | (simp only [List.length_cons, List.length_nil, Nat.zero_add, Nat.reduceAdd]; done) | (simp only [IntKind.wrap_i64]; omega) | (simp only [List.length_replicate, List.length_set, List.length_append, List.length_cons, List.length_nil, List.length_take, List.length_drop, List.length_map] <;> omega) | fail) only [vop_assign, vcallee_assign, vop_store, vcallee_store, vop_fieldAddr, vcallee_fieldAddr, strip_pv, strip_ptr, strip_own, optV_none, ev_tmp, ev_const, ofConst_bool, put_some, put_none, at_mk, fits_some, fits_none, ↓look_cons, ↓vlook_t, ↓vlook_f, guard_none, ↓vrun_nil, ↓code_region, ↓onNormal_normal, ↓onBlock_normal, store_ptr, vst_one, blk_zero, blk_succ, set_zero, set_succ, one_own, faddr_ptr, vfap_some, evG_eq, ↓vrun_cons, ↓run1_some, ↓run2_none, ↓run3_some, ↓runK_eq, at_hp, V.kill, kills, List.getElem?_cons_zero, List.getElem?_cons_succ, List.length_cons, List.length_nil, List.cons_append, List.nil_append, List.set_cons_zero, List.set_cons_succ, Option.map_some, ↓reduceIte, reduceCtorEq, Nat.reduceAdd, Nat.reduceLT, Nat.reduceBEq, Int.reduceLT, Int.reduceAdd, Int.reduceBEq, Nat.zero_add, Nat.add_zero, true_and, and_self, Bool.true_and, Bool.and_self, cond_true, Bool.cond_self, beq_self_eq_true, Try.vt24, Try.vfield26x0, dec_t]
          refine ⟨s.move hlt hb', fmu, ?_⟩
          rw [fin]
          dsimp only
          rw [hhl, hwl, holdS_f hf']
          exact (by refine gc_of (keep := [0, 1, 2, 3, 9, 7]) rfl rfl rfl (by decide) ?_ ?_ <;> (repeat' apply And.intro) <;> first | trivial | rfl | exact ⟨_, rfl, rfl, rfl, .inl ⟨rfl, rfl⟩⟩ | exact ⟨_, rfl, rfl, rfl, .inl ⟨cells_nums _ _ _, rfl⟩⟩ | exact ⟨_, rfl, rfl, rfl, .inl ⟨pvs_nums _ _, rfl⟩⟩ | exact ⟨_, rfl, rfl, rfl, .inr ⟨rfl, rfl⟩⟩)
    · simp (config := { maxSteps := 2000000 }) (implicitDefEqProofs := false) (disch := first | omega | assumption | (simp only [List.length_cons, List.length_nil, Nat.zero_add, Nat.reduceAdd]; done) | (simp only [IntKind.wrap_i64]; omega) | (simp only [List.length_replicate, List.length_set, List.length_append, List.length_cons, List.length_nil, List.length_take, List.length_drop, List.length_map] <;> omega) | fail) only [↓code_exit, ↓onNormal_normal, ↓onNormal_exit, ↓onBlock_normal, ↓onBlock_exit, ↓reduceIte, dec_f]
      exact ⟨s.out (by omega), SI.mu_out o s (by omega) hoc, (by refine gc_of (keep := [0, 1, 2, 3, 4, 5]) rfl rfl rfl (by decide) ?_ ?_ <;> (repeat' apply And.intro) <;> first | trivial | rfl | exact ⟨_, rfl, rfl, rfl, .inl ⟨rfl, rfl⟩⟩ | exact ⟨_, rfl, rfl, rfl, .inl ⟨cells_nums _ _ _, rfl⟩⟩ | exact ⟨_, rfl, rfl, rfl, .inl ⟨pvs_nums _ _, rfl⟩⟩ | exact ⟨_, rfl, rfl, rfl, .inr ⟨rfl, rfl⟩⟩)⟩
  · have hf := o.fin (by simpa using hoc)
    have hfz : ∀ r : Heap, frzHeap 2 (⟨33, false, []⟩ :: ⟨33, false, []⟩ :: r) = some [⟨33, false, []⟩, ⟨33, false, []⟩] := fun r => by simp [frzHeap, allSome]
    simp (config := { maxSteps := 2000000 }) (implicitDefEqProofs := false) (disch := first | omega | assumption | (simp only [List.length_cons, List.length_nil, Nat.zero_add, Nat.reduceAdd]; done) | (simp only [IntKind.wrap_i64]; omega) | (simp only [List.length_replicate, List.length_set, List.length_append, List.length_cons, List.length_nil, List.length_take, List.length_drop, List.length_map] <;> omega) | fail) only [vop_load, vcallee_load, vop_store, vcallee_store, strip_ptr, strip_agg, optV_none, ev_tmp, put_some, put_none, at_mk, fits_some, fits_none, ↓look_cons, ↓vlook_t, ↓vlook_f, guard_none, ↓vrun_nil, ↓code_region, ↓code_seq, ↓code_exit, ↓code_ret, ↓onNormal_normal, ↓onNormal_exit, ↓onBlock_exit, frz_agg, frz1_own, allSome_nil, allSome_cons, res_one, vres_cell, load_ptr, vld_agg, store_ptr, vst_agg, blk_zero, blk_succ, set_zero, set_succ, allOne_nil, allOne_cons, one_own, evG_eq, ↓vrun_cons, ↓run1_some, ↓run2_none, ↓run3_some, ↓vpost_ret, vfin_some, vfin2_some, at_hp, List.map_nil, V.splice, List.length_cons, List.length_nil, List.map_cons, List.map_nil, List.nil_append, List.append_nil, List.take_succ_cons, List.take_zero, List.take_nil, List.drop_succ_cons, List.drop_zero, List.drop_nil, Option.map_some, ↓reduceIte, Nat.reduceAdd, Nat.reduceLT, Nat.reduceBEq, Int.reduceLT, Int.reduceAdd, Int.reduceBEq, Nat.zero_add, true_and, and_true, and_self, Bool.and_true, Bool.true_and, Bool.and_self, cond_true, Bool.cond_self, beq_self_eq_true, Nat.le_refl, frzP_own, Try.vt26, dec_t, frzC_G rfl, hfz]
    rw [hf]
    rfl
end Go.Proofs.Ytjiaadkncpajnaa

namespace Go.Proofs.Ytjiaadkncpajnaa
open Go.V Go
set_option maxRecDepth 100000
set_option linter.unusedSimpArgs false

def plB (t : Lk) (g x : Gr) : Bool := decide (x.tx ≠ g.tx) && (decide (x.pg = g.pg) && decide (x.sl = g.sl)) && decide (modeS t.held x.tx x.pg x.sl = 0)
/-- Where a new request goes. -/
def placeS (t : Lk) (g : Gr) : Nat := if modeS t.held g.tx g.pg g.sl = 0 then t.wait.length else t.wait.findIdx (plB t g)
theorem placeS_le (t : Lk) (g : Gr) : placeS t g ≤ t.wait.length := by
  unfold placeS; split
  · exact Nat.le_refl _
  · exact List.findIdx_le_length
theorem findIdx_at {α : Type} (l : List α) (p : α → Bool) (i : Nat) (h : i < l.length) (hp : p l[i] = true) (d : α) (no : ∀ k, k < i → (!p (l.getD k d)) = true) : l.findIdx p = i := by
  rw [List.findIdx_eq h]
  refine ⟨hp, fun j hj => ?_⟩
  have := no j hj
  rw [getD_eq l j (by omega)] at this
  simpa using this
theorem findIdx_no {α : Type} (l : List α) (p : α → Bool) (d : α) (no : ∀ k, k < l.length → (!p (l.getD k d)) = true) : l.findIdx p = l.length := by
  rw [List.findIdx_eq_length]
  intro x hx
  obtain ⟨k, hk, rfl⟩ := List.getElem_of_mem hx
  have := no k hk
  rw [getD_eq l k hk] at this
  simpa using this
theorem place_v (t : Lk) (hs : t.sm) (hg : sortedG t.held) (g : Gr) : VCalls Try.prog 36 [t.d, g.d] [] (Ret (.int .i64 (placeS t g))) := by
  refine vcalls_drop (fn := Try.f36) Try.func36 rfl (by kernel_rfl) (by simp [Try.f36]) ?_
  have hm := mode_v t hs hg
  have hm0 := hm g.tx g.pg g.sl
  obtain ⟨held, wait⟩ := t
  obtain ⟨hs1, hs2⟩ := hs
  dsimp only at hs1 hs2 hm hm0 hg
  unfold Lk.d at hm0
  simp (config := { maxSteps := 2000000 }) (implicitDefEqProofs := false) (disch := first | omega | assumption | (simp only [List.length_cons, List.length_nil, Nat.zero_add, Nat.reduceAdd]; done) | (simp only [IntKind.wrap_i64]; omega) | (simp only [List.length_replicate, List.length_set, List.length_append, List.length_cons, List.length_nil, List.length_take, List.length_drop, List.length_map] <;> omega) | fail) only [vop_assign, vcallee_assign, vop_box, vcallee_box, vop_load, vcallee_load, vop_fieldAddr, vcallee_fieldAddr, vcallee_value, vcal_fn, strip_pv, strip_ptr, strip_agg, strip_fn, optV_none, ev_tmp, ev_const, ev_func, ofConst_int, put_some, at_mk, fits_some, ↓look_cons, ↓vlook_t, ↓vlook_f, guard_none, ↓vrun_nil, ↓code_region, ↓code_seq, ↓onNormal_normal, load_ptr, vld_one, vld_agg, blk_zero, blk_succ, box_eq, allOne_nil, allOne_cons, one_pv, faddr_ptr, vfap_some, enum_nil, enum_cons, evG_eq, ↓vrun_cons, ↓run1_some, ↓run2_none, ↓run2_some, ↓run3_some, ↓vcg_none, at_hp, List.map_nil, dcells, List.toList_toArray, List.getElem?_cons_zero, List.length_cons, List.length_nil, List.map_cons, List.map_nil, List.cons_append, List.nil_append, List.append_nil, List.take_succ_cons, List.take_zero, List.take_nil, List.drop_succ_cons, List.drop_zero, Option.map_some, ↓reduceIte, reduceCtorEq, Nat.reduceAdd, Nat.reduceLT, Nat.reduceLeDiff, Nat.reduceBEq, Int.reduceLT, Int.reduceAdd, Int.reduceBEq, Nat.zero_add, Nat.add_zero, true_and, and_self, Bool.true_and, Bool.and_self, cond_true, Bool.cond_self, beq_self_eq_true, Nat.le_refl, Try.vt3, Try.vt26, Try.vt28, Try.vfield33x0, Try.vfield33x1, dec_t, Try.f36, Lk.d, Gr.d]
  refine vc_pure hm0 rfl ?_
  by_cases z : modeS held g.tx g.pg g.sl = 0
  · rw [show placeS ⟨held, wait⟩ g = wait.length by simp [placeS, z]]
    simp (config := { maxSteps := 2000000 }) (implicitDefEqProofs := false) (disch := first | omega | assumption | (simp only [List.length_cons, List.length_nil, Nat.zero_add, Nat.reduceAdd]; done) | (simp only [IntKind.wrap_i64]; omega) | (simp only [List.length_replicate, List.length_set, List.length_append, List.length_cons, List.length_nil, List.length_take, List.length_drop, List.length_map] <;> omega) | fail) only [vop_assign, vcallee_assign, vop_load, vcallee_load, vop_binOp, vcallee_binOp, vop_fieldAddr, vcallee_fieldAddr, vop_builtin, vcallee_builtin, bin2_int, strip_pv, strip_ptr, optV_none, ev_tmp, ev_const, ofConst_int, put_some, at_mk, fits_some, ↓look_cons, ↓vlook_t, ↓vlook_f, guard_none, ↓vrun_nil, ↓code_region, ↓code_seq, ↓code_ret, ↓onNormal_normal, ↓onNormal_ret, frz_pv, frzHeap_zero, res_one, vres_tmp, load_ptr, vld_one, blk_zero, faddr_ptr, vfap_some, bin_int, int_eql, len_sl, vlk_sl, bi_len, evG_eq, ↓vrun_cons, ↓run1_some, ↓run2_none, ↓run3_some, ↓runK_eq, ↓code_cond, ↓vtest_bool, ↓vbr_true, ↓vpost_ret, vfin_some, vfin2_some, at_hp, List.map_nil, List.getElem?_cons_zero, List.getElem?_cons_succ, List.map_cons, List.map_nil, Option.map_some, ↓reduceIte, reduceCtorEq, Nat.reduceLT, Nat.reduceBEq, Int.reduceLT, Int.reduceBEq, Nat.zero_add, and_self, Bool.and_self, Bool.cond_self, beq_self_eq_true, fz_len, Try.vt24, Try.vkind24, Try.vfield26x1, dec_t, Ret, DV.nums, z]
  · simp (config := { maxSteps := 2000000 }) (implicitDefEqProofs := false) (disch := first | omega | assumption | (simp only [List.length_cons, List.length_nil, Nat.zero_add, Nat.reduceAdd]; done) | (simp only [IntKind.wrap_i64]; omega) | (simp only [List.length_replicate, List.length_set, List.length_append, List.length_cons, List.length_nil, List.length_take, List.length_drop, List.length_map] <;> omega) | fail) only [vop_move, vcallee_move, vop_load, vcallee_load, vop_binOp, vcallee_binOp, vop_fieldAddr, vcallee_fieldAddr, vop_builtin, vcallee_builtin, bin2_int, strip_pv, strip_ptr, optV_none, ev_tmp, ev_const, ofConst_int, put_some, at_mk, fits_some, ↓look_cons, ↓vlook_t, ↓vlook_f, guard_none, ↓vrun_nil, ↓code_skip, ↓code_region, ↓code_seq, ↓code_block, ↓code_loop, ↓onNormal_normal, load_ptr, vld_one, blk_zero, faddr_ptr, vfap_some, bin_int, int_eql, len_sl, vlk_sl, bi_len, evG_eq, ↓vrun_cons, ↓run1_some, ↓run2_none, ↓run3_some, ↓runK_eq, ↓code_cond, ↓vtest_bool, ↓vbr_false, at_hp, List.map_nil, List.getElem?_cons_zero, List.getElem?_cons_succ, List.map_cons, List.map_nil, Option.map_some, ↓reduceIte, reduceCtorEq, Nat.reduceLT, Nat.reduceBEq, Int.reduceLT, Int.reduceBEq, Nat.zero_add, true_and, Bool.true_and, Bool.cond_self, beq_self_eq_true, fz_len, Try.vt24, Try.vkind24, Try.vfield26x1, dec_t, int_beq_f]
    refine vloopW (fun s : Okay wait.length (fun k => !plB ⟨held, wait⟩ g (wait.getD k Gr0)) => ⟨51, 0, [(20, .int .i64 s.i), (19, .int .i64 wait.length), (18, .pv (.sl (fz encG wait))), (3, .ptr 1 0), (2, .ptr 0 0)], [⟨26, true, [.pv (.sl (fz encG held)), .pv (.sl (fz encG wait))]⟩, ⟨33, true, [.int .i64 g.tx, .int .i64 g.pg, .int .i64 g.sl, .int .i64 g.md]⟩]⟩) (fun s => wait.length - s.i) (Okay.start _ _) (.inl (by refine ⟨rfl, rfl, by simp, ?_, ?_, .inr ⟨?_, ?_⟩⟩ <;> (repeat' apply And.intro) <;> first | rfl | trivial | (intro _; first | rfl | apply cells_refs))) ?_
    intro s
    have hi := s.hi
    simp (config := { maxSteps := 2000000 }) (implicitDefEqProofs := false) (disch := first | omega | assumption | (simp only [List.length_cons, List.length_nil, Nat.zero_add, Nat.reduceAdd]; done) | (simp only [IntKind.wrap_i64]; omega) | (simp only [List.length_replicate, List.length_set, List.length_append, List.length_cons, List.length_nil, List.length_take, List.length_drop, List.length_map] <;> omega) | fail) only [vop_binOp, vcallee_binOp, bin2_tmp, strip_pv, optV_none, ev_tmp, put_some, at_mk, fits_some, ↓look_cons, ↓vlook_t, ↓vlook_f, guard_none, ↓vrun_nil, ↓code_region, ↓code_seq, ↓onNormal_normal, bin_int, int_lss, evG_eq, ↓vrun_cons, ↓run1_some, ↓run2_none, ↓run3_some, ↓code_cond, ↓vtest_bool, Option.map_some, Nat.reduceLT, Nat.reduceBEq, Int.reduceLT, Int.reduceBEq, true_and, Bool.true_and, Bool.cond_self, beq_self_eq_true, dec_t]
    refine vbr_split (fun hc => ?_) (fun hc => ?_) <;> simp only [decide_eq_true_eq, decide_eq_false_iff_not, Bool.or_eq_true, Bool.and_eq_true, Bool.or_eq_false_iff, Bool.and_eq_false_imp, Bool.not_eq_true', Bool.not_eq_false', beq_iff_eq, beq_eq_false_iff_ne, bne_iff_ne, bne_eq_false_iff_eq, ne_eq] at hc
    · have hlt : s.i < wait.length := by omega
      have hgx := fzG_at wait s.i hlt
      have hd := getD_eq wait s.i hlt Gr0
      have hmx := hm wait[s.i].tx wait[s.i].pg wait[s.i].sl
      unfold Lk.d at hmx
      have next : plB ⟨held, wait⟩ g wait[s.i] = false → (fun k => !plB ⟨held, wait⟩ g (wait.getD k Gr0)) s.i = true := fun h => by show (!_) = true; rw [hd, h]; rfl
      by_cases h1 : wait[s.i].tx = g.tx
      · simp (config := { maxSteps := 2000000 }) (implicitDefEqProofs := false) (disch := first | omega | assumption | (simp only [List.length_cons, List.length_nil, Nat.zero_add, Nat.reduceAdd]; done) | (simp only [IntKind.wrap_i64]; omega) | (simp only [List.length_replicate, List.length_set, List.length_append, List.length_cons, List.length_nil, List.length_take, List.length_drop, List.length_map] <;> omega) | fail) only [vop_move, vcallee_move, vop_assign, vcallee_assign, vop_pick, vcallee_pick, vop_alloc, vcallee_alloc, vop_load, vcallee_load, vop_store, vcallee_store, vop_binOp, vcallee_binOp, vop_fieldAddr, vcallee_fieldAddr, vop_indexAddr, vcallee_indexAddr, vcallee_value, vcal_fn, bin2_tmp, vpick_bool, strip_pv, strip_ptr, strip_ip, strip_agg, strip_fn, strip_opt, vstr_true, vstr_false, optV_none, optV_some, pickV_bool, ev_tmp, ev_const, ev_func, ofConst_bool, put_some, put_none, at_mk, fits_some, fits_none, ↓look_cons, ↓vlook_t, ↓vlook_f, guard_none, guard_some, vgof_bool, ↓vrun_nil, ↓code_skip, ↓code_region, ↓code_seq, ↓code_block, ↓onNormal_normal, load_ptr, load_ip, vld_one, vld_agg, vldp_agg, store_ptr, vst_agg, blk_zero, blk_succ, set_zero, set_succ, alloc_eq, val1_some, allOne_nil, allOne_cons, one_pv, faddr_ptr, vfap_some, iaddr_sl, vias_some, bin_int, int_neq, evG_eq, ↓vrun_cons, ↓run1_some, ↓run2_none, ↓run2_some, ↓run3_some, ↓vcg_some, at_hp, bin_agg, vba_eql, List.map_nil, V.splice, List.getElem?_cons_zero, List.getElem?_cons_succ, List.length_cons, List.length_nil, List.map_cons, List.map_nil, List.cons_append, List.nil_append, List.append_nil, List.take_succ_cons, List.take_zero, List.take_nil, List.drop_succ_cons, List.drop_zero, List.drop_nil, Option.map_some, Option.bind_some, ↓reduceIte, reduceCtorEq, Nat.reduceAdd, Nat.reduceLT, Nat.reduceLeDiff, Nat.reduceBEq, Int.reduceLT, Int.reduceAdd, Int.reduceBEq, Int.toNat_natCast, Nat.zero_add, Nat.add_zero, true_and, and_self, or_false, or_self, Bool.not_true, Bool.not_false, Bool.or_false, Bool.true_and, Bool.or_self, Bool.and_self, b_beq_t, cond_true, cond_false, Bool.cond_self, beq_self_eq_true, Nat.le_refl, Try.vt3, Try.velem24, Try.vt26, Try.vt28, Try.leaves28, Try.eqg28, Try.vt33, Try.vfield33x0, Try.vfield33x1, Try.vzero33, dec_t, int_bne_f, hgx, h1, allEq_w]
        refine vcg_no ?_
        simp (config := { maxSteps := 2000000 }) (implicitDefEqProofs := false) (disch := first | omega | assumption | (simp only [List.length_cons, List.length_nil, Nat.zero_add, Nat.reduceAdd]; done) | (simp only [IntKind.wrap_i64]; omega) | (simp only [List.length_replicate, List.length_set, List.length_append, List.length_cons, List.length_nil, List.length_take, List.length_drop, List.length_map] <;> omega) | fail) only [vop_move, vcallee_move, vop_pick, vcallee_pick, vop_binOp, vcallee_binOp, bin2_int, vpick_bool, strip_pv, strip_tup, optV_none, ev_tmp, ev_const, ofConst_int, ofConst_bool, put_some, at_mk, fits_some, ↓look_cons, ↓vlook_t, ↓vlook_f, guard_none, guard_some, vgof_bool, ↓vrun_nil, ↓code_skip, ↓code_region, ↓onNormal_normal, ↓onBlock_normal, bin_int, int_add, evG_eq, ↓vrun_cons, ↓run1_some, ↓run2_none, ↓run3_some, ↓run3_none, ↓runK_eq, ↓code_cond, ↓vtest_bool, ↓vbr_false, at_hp, pickV_f, bin_tupL, List.getElem?_cons_zero, List.getElem?_cons_succ, Option.map_some, Option.map_none, Option.bind_some, Nat.reduceLT, Nat.reduceBEq, Int.reduceLT, Int.reduceBEq, true_and, Bool.not_false, Bool.true_and, b_beq_t, Bool.cond_self, beq_self_eq_true, wrap_i64_in, dec_t]
        exact ⟨s.next hlt (next (by simp [plB, h1])), by show wait.length - (s.i + 1) < wait.length - s.i; omega, (by refine gc_of (keep := [0, 1]) rfl rfl rfl (by decide) ?_ ?_ <;> (repeat' apply And.intro) <;> first | trivial | rfl | exact ⟨_, rfl, rfl, rfl, .inl ⟨rfl, rfl⟩⟩ | exact ⟨_, rfl, rfl, rfl, .inl ⟨cells_nums _ _ _, rfl⟩⟩ | exact ⟨_, rfl, rfl, rfl, .inl ⟨pvs_nums _ _, rfl⟩⟩ | exact ⟨_, rfl, rfl, rfl, .inr ⟨rfl, rfl⟩⟩)⟩
      · by_cases h2 : wait[s.i].pg = g.pg ∧ wait[s.i].sl = g.sl
        · dsimp only at hmx
          rw [h2.1, h2.2] at hmx
          simp (config := { maxSteps := 2000000 }) (implicitDefEqProofs := false) (disch := first | omega | assumption | (simp only [List.length_cons, List.length_nil, Nat.zero_add, Nat.reduceAdd]; done) | (simp only [IntKind.wrap_i64]; omega) | (simp only [List.length_replicate, List.length_set, List.length_append, List.length_cons, List.length_nil, List.length_take, List.length_drop, List.length_map] <;> omega) | fail) only [vop_move, vcallee_move, vop_assign, vcallee_assign, vop_pick, vcallee_pick, vop_alloc, vcallee_alloc, vop_load, vcallee_load, vop_store, vcallee_store, vop_binOp, vcallee_binOp, vop_fieldAddr, vcallee_fieldAddr, vop_indexAddr, vcallee_indexAddr, vcallee_value, vcal_fn, bin2_tmp, vpick_bool, strip_pv, strip_ptr, strip_ip, strip_agg, strip_fn, strip_opt, vstr_true, optV_none, optV_some, pickV_bool, ev_tmp, ev_const, ev_func, ofConst_bool, put_some, put_none, at_mk, fits_some, fits_none, ↓look_cons, ↓vlook_t, ↓vlook_f, guard_none, guard_some, vgof_bool, ↓vrun_nil, ↓code_skip, ↓code_region, ↓code_seq, ↓code_block, ↓onNormal_normal, load_ptr, load_ip, vld_one, vld_agg, vldp_agg, store_ptr, vst_agg, blk_zero, blk_succ, set_zero, set_succ, alloc_eq, val1_some, allOne_nil, allOne_cons, one_pv, faddr_ptr, vfap_some, iaddr_sl, vias_some, bin_int, int_neq, evG_eq, ↓vrun_cons, ↓run1_some, ↓run2_none, ↓run2_some, ↓run3_some, ↓vcg_some, at_hp, bin_agg, vba_eql, List.map_nil, V.splice, List.getElem?_cons_zero, List.getElem?_cons_succ, List.length_cons, List.length_nil, List.map_cons, List.map_nil, List.cons_append, List.nil_append, List.append_nil, List.take_succ_cons, List.take_zero, List.take_nil, List.drop_succ_cons, List.drop_zero, List.drop_nil, Option.map_some, Option.bind_some, ↓reduceIte, reduceCtorEq, Nat.reduceAdd, Nat.reduceLT, Nat.reduceLeDiff, Nat.reduceBEq, Int.reduceLT, Int.reduceAdd, Int.reduceBEq, Int.toNat_natCast, Nat.zero_add, Nat.add_zero, true_and, and_self, or_true, Bool.not_true, Bool.or_true, Bool.true_and, Bool.and_self, cond_true, Bool.cond_self, beq_self_eq_true, Nat.le_refl, Try.vt3, Try.velem24, Try.vt26, Try.vt28, Try.leaves28, Try.eqg28, Try.vt33, Try.vfield33x0, Try.vfield33x1, Try.vzero33, dec_t, int_bne_t, hgx, h2.1, h2.2, allEq_w]
          refine vcg_pure (fun _ => hmx) rfl ?_
          by_cases h3 : modeS held wait[s.i].tx g.pg g.sl = 0
          · have e : placeS ⟨held, wait⟩ g = s.i := by
              rw [placeS, if_neg z]
              exact findIdx_at wait _ s.i hlt (by simp [plB, h1, h2, h3]) Gr0 s.ok
            rw [e]
            simp (config := { maxSteps := 2000000 }) (implicitDefEqProofs := false) (disch := first | omega | assumption | (simp only [List.length_cons, List.length_nil, Nat.zero_add, Nat.reduceAdd]; done) | (simp only [IntKind.wrap_i64]; omega) | (simp only [List.length_replicate, List.length_set, List.length_append, List.length_cons, List.length_nil, List.length_take, List.length_drop, List.length_map] <;> omega) | fail) only [vop_move, vcallee_move, vop_assign, vcallee_assign, vop_pick, vcallee_pick, vop_binOp, vcallee_binOp, bin2_int, vpick_bool, strip_pv, strip_opt, vstr_true, optV_none, optV_some, pickV_bool, ev_tmp, ev_const, ofConst_int, ofConst_bool, put_some, at_mk, fits_some, ↓look_cons, ↓vlook_t, ↓vlook_f, guard_none, guard_some, vgof_bool, ↓vrun_nil, ↓code_region, ↓code_seq, ↓code_ret, ↓onNormal_normal, ↓onNormal_ret, ↓onBlock_ret, frz_pv, frzHeap_zero, res_one, vres_tmp, bin_int, int_eql, evG_eq, ↓vrun_cons, ↓run1_some, ↓run2_none, ↓run3_some, ↓runK_eq, ↓code_cond, ↓vtest_bool, ↓vbr_true, ↓vpost_ret, vfin_some, vfin2_some, at_hp, List.getElem?_cons_zero, List.getElem?_cons_succ, Option.map_some, Option.bind_some, Nat.reduceLT, Nat.reduceBEq, Int.reduceLT, Int.reduceBEq, and_self, or_true, Bool.not_true, Bool.or_true, Bool.and_self, cond_true, Bool.cond_self, beq_self_eq_true, dec_t, Ret, DV.nums, h3]
          · simp (config := { maxSteps := 2000000 }) (implicitDefEqProofs := false) (disch := first | omega | assumption | (simp only [List.length_cons, List.length_nil, Nat.zero_add, Nat.reduceAdd]; done) | (simp only [IntKind.wrap_i64]; omega) | (simp only [List.length_replicate, List.length_set, List.length_append, List.length_cons, List.length_nil, List.length_take, List.length_drop, List.length_map] <;> omega) | fail) only [vop_move, vcallee_move, vop_pick, vcallee_pick, vop_binOp, vcallee_binOp, bin2_int, vpick_bool, strip_pv, strip_opt, vstr_true, optV_none, optV_some, pickV_bool, ev_tmp, ev_const, ofConst_int, ofConst_bool, put_some, at_mk, fits_some, ↓look_cons, ↓vlook_t, ↓vlook_f, guard_none, guard_some, vgof_bool, ↓vrun_nil, ↓code_skip, ↓code_region, ↓onNormal_normal, ↓onBlock_normal, bin_int, int_add, int_eql, evG_eq, ↓vrun_cons, ↓run1_some, ↓run2_none, ↓run3_some, ↓runK_eq, ↓code_cond, ↓vtest_bool, ↓vbr_false, at_hp, List.getElem?_cons_zero, List.getElem?_cons_succ, Option.map_some, Option.bind_some, Nat.reduceLT, Nat.reduceBEq, Int.reduceLT, Int.reduceBEq, true_and, or_true, Bool.not_true, Bool.or_true, Bool.true_and, Bool.cond_self, beq_self_eq_true, wrap_i64_in, dec_t, int_beq_f]
            exact ⟨s.next hlt (next (by simp [plB, h2, h3])), by show wait.length - (s.i + 1) < wait.length - s.i; omega, (by refine gc_of (keep := [0, 1]) rfl rfl rfl (by decide) ?_ ?_ <;> (repeat' apply And.intro) <;> first | trivial | rfl | exact ⟨_, rfl, rfl, rfl, .inl ⟨rfl, rfl⟩⟩ | exact ⟨_, rfl, rfl, rfl, .inl ⟨cells_nums _ _ _, rfl⟩⟩ | exact ⟨_, rfl, rfl, rfl, .inl ⟨pvs_nums _ _, rfl⟩⟩ | exact ⟨_, rfl, rfl, rfl, .inr ⟨rfl, rfl⟩⟩)⟩
        · have h2' : (decide (wait[s.i].pg = g.pg) && decide (wait[s.i].sl = g.sl)) = false := by simpa using h2
          simp (config := { maxSteps := 2000000 }) (implicitDefEqProofs := false) (disch := first | omega | assumption | (simp only [List.length_cons, List.length_nil, Nat.zero_add, Nat.reduceAdd]; done) | (simp only [IntKind.wrap_i64]; omega) | (simp only [List.length_replicate, List.length_set, List.length_append, List.length_cons, List.length_nil, List.length_take, List.length_drop, List.length_map] <;> omega) | fail) only [vop_move, vcallee_move, vop_assign, vcallee_assign, vop_pick, vcallee_pick, vop_alloc, vcallee_alloc, vop_load, vcallee_load, vop_store, vcallee_store, vop_binOp, vcallee_binOp, vop_fieldAddr, vcallee_fieldAddr, vop_indexAddr, vcallee_indexAddr, vcallee_value, vcal_fn, bin2_tmp, vpick_bool, strip_pv, strip_ptr, strip_ip, strip_agg, strip_fn, strip_opt, vstr_true, optV_none, optV_some, pickV_bool, ev_tmp, ev_const, ev_func, ofConst_bool, put_some, put_none, at_mk, fits_some, fits_none, ↓look_cons, ↓vlook_t, ↓vlook_f, guard_none, guard_some, vgof_bool, ↓vrun_nil, ↓code_skip, ↓code_region, ↓code_seq, ↓code_block, ↓onNormal_normal, load_ptr, load_ip, vld_one, vld_agg, vldp_agg, store_ptr, vst_agg, blk_zero, blk_succ, set_zero, set_succ, alloc_eq, val1_some, allOne_nil, allOne_cons, one_pv, faddr_ptr, vfap_some, iaddr_sl, vias_some, bin_int, int_neq, evG_eq, ↓vrun_cons, ↓run1_some, ↓run2_none, ↓run2_some, ↓run3_some, ↓vcg_some, at_hp, bin_agg, vba_eql, List.map_nil, V.splice, List.getElem?_cons_zero, List.getElem?_cons_succ, List.length_cons, List.length_nil, List.map_cons, List.map_nil, List.cons_append, List.nil_append, List.append_nil, List.take_succ_cons, List.take_zero, List.take_nil, List.drop_succ_cons, List.drop_zero, List.drop_nil, Option.map_some, Option.bind_some, ↓reduceIte, reduceCtorEq, Nat.reduceAdd, Nat.reduceLT, Nat.reduceLeDiff, Nat.reduceBEq, Int.reduceLT, Int.reduceAdd, Int.reduceBEq, Int.toNat_natCast, Nat.zero_add, Nat.add_zero, true_and, and_self, or_true, or_false, Bool.not_true, Bool.not_false, Bool.or_true, Bool.or_false, Bool.true_and, Bool.and_self, b_beq_t, cond_true, Bool.cond_self, beq_self_eq_true, Nat.le_refl, Try.vt3, Try.velem24, Try.vt26, Try.vt28, Try.leaves28, Try.eqg28, Try.vt33, Try.vfield33x0, Try.vfield33x1, Try.vzero33, dec_t, int_bne_t, hgx, allEq_w, h2']
          refine vcg_no ?_
          simp (config := { maxSteps := 2000000 }) (implicitDefEqProofs := false) (disch := first | omega | assumption | (simp only [List.length_cons, List.length_nil, Nat.zero_add, Nat.reduceAdd]; done) | (simp only [IntKind.wrap_i64]; omega) | (simp only [List.length_replicate, List.length_set, List.length_append, List.length_cons, List.length_nil, List.length_take, List.length_drop, List.length_map] <;> omega) | fail) only [vop_move, vcallee_move, vop_pick, vcallee_pick, vop_binOp, vcallee_binOp, bin2_int, vpick_bool, strip_pv, strip_tup, optV_none, ev_tmp, ev_const, ofConst_int, ofConst_bool, put_some, at_mk, fits_some, ↓look_cons, ↓vlook_t, ↓vlook_f, guard_none, guard_some, vgof_bool, ↓vrun_nil, ↓code_skip, ↓code_region, ↓onNormal_normal, ↓onBlock_normal, bin_int, int_add, evG_eq, ↓vrun_cons, ↓run1_some, ↓run2_none, ↓run3_some, ↓run3_none, ↓runK_eq, ↓code_cond, ↓vtest_bool, ↓vbr_false, at_hp, pickV_f, bin_tupL, List.getElem?_cons_zero, List.getElem?_cons_succ, Option.map_some, Option.map_none, Option.bind_some, Nat.reduceLT, Nat.reduceBEq, Int.reduceLT, Int.reduceBEq, true_and, Bool.not_false, Bool.true_and, b_beq_t, Bool.cond_self, beq_self_eq_true, wrap_i64_in, dec_t]
          exact ⟨s.next hlt (next (by rw [plB, h2']; simp)), by show wait.length - (s.i + 1) < wait.length - s.i; omega, (by refine gc_of (keep := [0, 1]) rfl rfl rfl (by decide) ?_ ?_ <;> (repeat' apply And.intro) <;> first | trivial | rfl | exact ⟨_, rfl, rfl, rfl, .inl ⟨rfl, rfl⟩⟩ | exact ⟨_, rfl, rfl, rfl, .inl ⟨cells_nums _ _ _, rfl⟩⟩ | exact ⟨_, rfl, rfl, rfl, .inl ⟨pvs_nums _ _, rfl⟩⟩ | exact ⟨_, rfl, rfl, rfl, .inr ⟨rfl, rfl⟩⟩)⟩
    · have e : placeS ⟨held, wait⟩ g = wait.length := by
        rw [placeS, if_neg z]
        exact findIdx_no wait _ Gr0 fun k hk => s.ok k (by omega)
      rw [e]
      simp (config := { maxSteps := 2000000 }) (implicitDefEqProofs := false) (disch := first | omega | assumption | (simp only [List.length_cons, List.length_nil, Nat.zero_add, Nat.reduceAdd]; done) | (simp only [IntKind.wrap_i64]; omega) | (simp only [List.length_replicate, List.length_set, List.length_append, List.length_cons, List.length_nil, List.length_take, List.length_drop, List.length_map] <;> omega) | fail) only [vop_assign, vcallee_assign, vop_load, vcallee_load, vop_fieldAddr, vcallee_fieldAddr, vop_builtin, vcallee_builtin, strip_pv, strip_ptr, optV_none, ev_tmp, put_some, at_mk, fits_some, ↓look_cons, ↓vlook_t, ↓vlook_f, guard_none, ↓vrun_nil, ↓code_region, ↓code_seq, ↓code_exit, ↓code_ret, ↓onNormal_normal, ↓onNormal_exit, ↓onBlock_exit, frz_pv, frzHeap_zero, res_one, vres_tmp, load_ptr, vld_one, blk_zero, faddr_ptr, vfap_some, len_sl, vlk_sl, bi_len, evG_eq, ↓vrun_cons, ↓run1_some, ↓run2_none, ↓run3_some, ↓vpost_ret, vfin_some, vfin2_some, at_hp, List.map_nil, List.getElem?_cons_zero, List.getElem?_cons_succ, List.map_cons, List.map_nil, Option.map_some, ↓reduceIte, reduceCtorEq, Nat.reduceLT, Nat.reduceBEq, Int.reduceLT, Int.reduceBEq, Nat.zero_add, and_self, Bool.and_self, Bool.cond_self, beq_self_eq_true, fz_len, Try.vt24, Try.vkind24, Try.vfield26x1, dec_t, dec_f, Ret, DV.nums]
end Go.Proofs.Ytjiaadkncpajnaa

namespace Go.Proofs.Ytjiaadkncpajnaa
open Go.V Go
set_option maxRecDepth 100000
set_option linter.unusedSimpArgs false

theorem behind_nil (hp h' : Heap) : behind hp [] h' = hp ++ h'.map (renB (back [] hp.length)) := by
  unfold behind
  congr 1
  apply List.ext_getElem?
  intro k
  rw [List.getElem?_map]
  by_cases hk : k < hp.length
  · rw [List.getElem?_range hk]
    simp [List.getElem?_eq_getElem hk]
  · rw [List.getElem?_eq_none (l := List.range hp.length) (by simpa using hk), List.getElem?_eq_none (l := hp) (by omega)]
    rfl
/-- A table is copied. -/
theorem vc_own {hp : Heap} {K : DV → Heap → Prop} (t : Lk) (hs : t.sm) (h : K (.agg [.own (hp.length + 2) 4 0 t.held.length, .own (hp.length + 3) 4 0 t.wait.length]) (hp ++ [⟨26, true, [.pv (.sl (fz encG t.held)), .pv (.sl (fz encG t.wait))]⟩, ⟨26, true, [.own (hp.length + 2) 4 0 t.held.length, .own (hp.length + 3) 4 0 t.wait.length]⟩, ⟨33, true, cells encG t.held⟩, ⟨33, true, cells encG t.wait⟩])) : VCalls Try.prog 34 [.agg [.pv (.sl (fz encG t.held)), .pv (.sl (fz encG t.wait))]] hp K := by
  refine (VCalls.frame [] List.nodup_nil rfl rfl (own_v t hs) rfl rfl).mono ?_
  rintro r h2 ⟨r0, h', ⟨rfl, rfl⟩, -, rfl, rfl⟩
  rw [behind_nil]
  have e1 : renB (back [] hp.length) ⟨33, true, cells encG t.held⟩ = ⟨33, true, cells encG t.held⟩ := renB_plain (cells_nums _ _ _)
  have e2 : renB (back [] hp.length) ⟨33, true, cells encG t.wait⟩ = ⟨33, true, cells encG t.wait⟩ := renB_plain (cells_nums _ _ _)
  simp only [ownHp, List.map_cons, List.map_nil, e1, e2]
  exact h
theorem behind_dead {hp : Heap} {a b : Nat} {T : TypeId} (ha : (hp[a]?).map Blk.ty = some T) (hb : (hp[b]?).map Blk.ty = some T) (hne : a ≠ b) : behind hp [a, b] [⟨T, false, []⟩, ⟨T, false, []⟩] = kills hp [a, b] := by
  unfold behind
  rw [show ([⟨T, false, []⟩, ⟨T, false, []⟩] : Heap).drop [a, b].length = [] from rfl, List.map_nil, List.append_nil]
  apply List.ext_getElem?
  intro k
  rw [kills_at, List.getElem?_map]
  by_cases hk : k < hp.length
  · rw [List.getElem?_range hk, Option.map_some]
    have hget : hp[k]? = some hp[k] := List.getElem?_eq_getElem hk
    by_cases h1 : k = a
    · subst h1
      rw [hget] at ha ⊢
      simp only [Option.map_some, Option.some.injEq] at ha
      subst ha
      simp [renB]
    · by_cases h2 : k = b
      · subst h2
        rw [hget] at hb ⊢
        simp only [Option.map_some, Option.some.injEq] at hb
        subst hb
        have hi : [a, k].idxOf k = 1 := by rw [List.idxOf_cons, show (a == k) = false by simpa using hne]; simp
        rw [hi]
        simp [renB]
      · have hc : [a, b].contains k = false := by simp [h1, h2]
        rw [hc]
        simp [hget, h1, h2]
  · rw [List.getElem?_eq_none (l := List.range hp.length) (by simpa using hk), List.getElem?_eq_none (l := hp) (by omega)]
    simp
/-- A table is settled. -/
theorem vc_settle {hp : Heap} {K : DV → Heap → Prop} {a b n m : Nat} (t : Lk) (hg : t.Good) (hs : t.held.length + t.wait.length ≤ 5000) (hn : n = t.held.length) (hm : m = t.wait.length) (ha : hp[a]? = some ⟨33, true, cells encG t.held⟩) (hb : hp[b]? = some ⟨33, true, cells encG t.wait⟩) (hne : a ≠ b) (h : K t.settle.d (kills hp [a, b])) : VCalls Try.prog 37 [.agg [.own a 4 0 n, .own b 4 0 m]] hp K := by
  subst hn hm
  have e1 : ∀ σ, renB σ ⟨33, true, cells encG t.held⟩ = ⟨33, true, cells encG t.held⟩ := fun σ => renB_plain (cells_nums _ _ _)
  have e2 : ∀ σ, renB σ ⟨33, true, cells encG t.wait⟩ = ⟨33, true, cells encG t.wait⟩ := fun σ => renB_plain (cells_nums _ _ _)
  have i1 : [a, b].idxOf a = 0 := by simp
  have i2 : [a, b].idxOf b = 1 := by rw [List.idxOf_cons, show (a == b) = false by simpa using hne]; simp
  refine (VCalls.frame [a, b] (by simp [hne]) (by simp [lentTo, ha, hb, e1, e2, allSome]) (by simp [lentOk, ha, hb, cells_nums]) (settle_v t hg hs) (by simp only [List.map_cons, List.map_nil, DV.ren, DV.ren.go, i1, i2]) (by simp [DV.nums.go, DV.nums])).mono ?_
  rintro r h2 ⟨r0, h', ⟨rfl, rfl⟩, -, rfl, rfl⟩
  rw [behind_dead (by rw [ha]; rfl) (by rw [hb]; rfl) hne]
  exact h
/-- The table with a grant more that waits. -/
def Lk.add (t : Lk) (g : Gr) : Lk := ⟨t.held, t.wait.take (placeS t g) ++ g :: t.wait.drop (placeS t g)⟩
def Lk0 : Lk := ⟨[], []⟩
def Lk.waits (t : Lk) (tx : Int) : Option Gr := t.wait.find? fun x => decide (x.tx = tx)
/-- A request. -/
def reqS (t : Lk) (g : Gr) : Lk × Bool × Int :=
  if t.okB = false then (Lk0, false, 17)
  else if g.okB = false then (Lk0, false, 1)
  else match t.waits g.tx with
    | some w => if w = g then (t, false, 0) else (Lk0, false, 15)
    | none =>
      if g.md ≤ modeS t.held g.tx g.pg g.sl then (t, true, 0)
      else if t.held.length + t.wait.length = 1024 then (Lk0, false, 21)
      else ((t.add g).settle, decide (g.md ≤ modeS (t.add g).settle.held g.tx g.pg g.sl), 0)
theorem Lk.add_len (t : Lk) (g : Gr) : (t.add g).wait.length = t.wait.length + 1 := by
  have := placeS_le t g
  simp only [Lk.add, List.length_append, List.length_take, List.length_cons, List.length_drop]; omega
theorem mem_ins {l : List Gr} {n : Nat} {g x : Gr} : x ∈ l.take n ++ g :: l.drop n ↔ x = g ∨ x ∈ l := by
  rw [List.mem_append, List.mem_cons]
  constructor
  · rintro (h | h | h)
    · exact .inr (List.mem_of_mem_take h)
    · exact .inl h
    · exact .inr (List.mem_of_mem_drop h)
  · rintro (h | h)
    · exact .inr (.inl h)
    · rw [← List.take_append_drop n l, List.mem_append] at h
      rcases h with h | h
      · exact .inl h
      · exact .inr (.inr h)
theorem Lk.Good.add {t : Lk} (h : t.Good) {g : Gr} (hg : g.okB = true) (hw : t.waits g.tx = none) (hm : modeS t.held g.tx g.pg g.sl < g.md) : (t.add g).Good := by
  have hno : ∀ x ∈ t.wait, x.tx ≠ g.tx := fun x hx => by
    have := List.find?_eq_none.1 hw x hx
    simpa using this
  refine ⟨h.srt, h.okh, h.nc, ?_, ?_, ?_⟩
  · intro x hx
    rcases mem_ins.1 hx with rfl | hx
    · exact hg
    · exact h.okw x hx
  · intro x hx
    rcases mem_ins.1 hx with rfl | hx
    · exact hm
    · exact h.md x hx
  · have hd := h.dis
    unfold Lk.add
    rw [← List.take_append_drop (placeS t g) t.wait, List.pairwise_append] at hd
    dsimp only
    rw [List.pairwise_append]
    refine ⟨hd.1, List.pairwise_cons.2 ⟨fun x hx => (hno x (List.mem_of_mem_drop hx)).symm, hd.2.1⟩, ?_⟩
    intro a ha b hb
    rcases List.mem_cons.1 hb with rfl | hb
    · exact hno a (List.mem_of_mem_take ha)
    · exact hd.2.2 a ha b hb
end Go.Proofs.Ytjiaadkncpajnaa

namespace Go.Proofs.Ytjiaadkncpajnaa
open Go.V Go
set_option maxRecDepth 100000
set_option linter.unusedSimpArgs false

/-- A table without some. -/
def Lk.less (t : Lk) (p q : Gr → Bool) : Lk := ⟨keepL t.held p, keepL t.wait q⟩
def withoutS (t : Lk) (p q : Gr → Bool) : Lk := if t.okB = true then (t.less p q).settle else t
theorem keepL_sub {α : Type} (l : List α) (p : α → Bool) : (keepL l p).Sublist l := List.filter_sublist
theorem modeS_sub {l m : List Gr} (h : l.Sublist m) (hm : sortedG m) (tx pg sl : Int) (h0 : 0 ≤ modeS m tx pg sl) : modeS l tx pg sl ≤ modeS m tx pg sl := by
  have hl : sortedG l := List.Pairwise.sublist h hm
  by_cases hx : ∃ x ∈ l, keyB tx pg sl x = true
  · obtain ⟨x, h1, h2⟩ := hx
    rw [modeS_key l hl tx pg sl x h1 h2, modeS_key m hm tx pg sl x (h.subset h1) h2]
    exact Int.le_refl _
  · rw [modeS_out l tx pg sl fun x hm => by simpa using fun hk => hx ⟨x, hm, hk⟩]
    exact h0
theorem modeS_nn {l : List Gr} (h : ∀ g ∈ l, g.okB = true) (tx pg sl : Int) : 0 ≤ modeS l tx pg sl := by
  unfold modeS
  cases hf : l.find? (keyB tx pg sl) with
  | none => exact Int.le_refl _
  | some y =>
    have := okB_md (h y (List.mem_of_find?_eq_some hf))
    show 0 ≤ y.md
    omega
theorem Lk.Good.sub {t u : Lk} (h : t.Good) (h1 : u.held.Sublist t.held) (h2 : u.wait.Sublist t.wait) : u.Good := by
  refine ⟨List.Pairwise.sublist h1 h.srt, fun g hg => h.okh g (h1.subset hg), fun a ha b hb => h.nc a (h1.subset ha) b (h1.subset hb), fun g hg => h.okw g (h2.subset hg), fun g hg => ?_, List.Pairwise.sublist h2 h.dis⟩
  have h3 := h.md g (h2.subset hg)
  have h4 := modeS_sub h1 h.srt g.tx g.pg g.sl (modeS_nn h.okh _ _ _)
  omega
theorem Lk.Good.less {t : Lk} (h : t.Good) (p q : Gr → Bool) : (t.less p q).Good := h.sub (keepL_sub _ _) (keepL_sub _ _)
theorem without_v (t : Lk) (hs : t.sm) (g1 g2 : FuncId) (c1 c2 : List DV) (n1 : DV.nums.go (fun _ => false) c1 = true) (n2 : DV.nums.go (fun _ => false) c2 = true) (f1 : ∀ hp, allSome (c1.map (frzB hp)) = some c1) (f2 : ∀ hp, allSome (c2.map (frzB hp)) = some c2) (p q : Gr → Bool)
    (hp : ∀ x ∈ t.held, VCalls Try.prog g1 (.agg [.int .i64 x.tx, .int .i64 x.pg, .int .i64 x.sl, .int .i64 x.md] :: c1) [] (Ret (.bool (p x)))) (hq : ∀ x ∈ t.wait, VCalls Try.prog g2 (.agg [.int .i64 x.tx, .int .i64 x.pg, .int .i64 x.sl, .int .i64 x.md] :: c2) [] (Ret (.bool (q x)))) :
    VCalls Try.prog 39 [t.d, .fn (.func g1) [] c1, .fn (.func g2) [] c2] [] (Ret (withoutS t p q).d) := by
  have k1 : ∀ {q}, (DV.fn (.func g1) [] c1).nums q = true := fun {q} => nums_mono q _ (by simpa [DV.nums, DV.nums.go] using n1)
  have k2 : ∀ {q}, (DV.fn (.func g2) [] c2).nums q = true := fun {q} => nums_mono q _ (by simpa [DV.nums, DV.nums.go] using n2)
  have r1 : ∀ {σ}, (DV.fn (.func g1) [] c1).ren σ = DV.fn (.func g1) [] c1 := fun {σ} => ren_id σ _ (by simpa [DV.nums, DV.nums.go] using n1)
  have r2 : ∀ {σ}, (DV.fn (.func g2) [] c2).ren σ = DV.fn (.func g2) [] c2 := fun {σ} => ren_id σ _ (by simpa [DV.nums, DV.nums.go] using n2)
  refine VCalls.unwk ?_
  refine vcalls_drop (fn := Try.f39) Try.func39 rfl (by kernel_rfl) (by simp [Try.f39]) ?_
  have hv := valid_v t hs
  unfold Lk.d at hv
  simp (config := { maxSteps := 2000000 }) (implicitDefEqProofs := false) (disch := first | omega | assumption | (simp only [List.length_cons, List.length_nil, Nat.zero_add, Nat.reduceAdd]; done) | (simp only [IntKind.wrap_i64]; omega) | (simp only [List.length_replicate, List.length_set, List.length_append, List.length_cons, List.length_nil, List.length_take, List.length_drop, List.length_map] <;> omega) | fail) only [vop_alloc, vcallee_alloc, vop_box, vcallee_box, vop_load, vcallee_load, vcallee_value, vcal_fn, strip_ptr, strip_agg, strip_fn, optV_none, ev_tmp, ev_func, put_some, at_mk, fits_some, ↓look_cons, ↓vlook_t, ↓vlook_f, guard_none, ↓vrun_nil, ↓code_region, ↓code_seq, ↓onNormal_normal, load_ptr, vld_agg, blk_zero, box_eq, alloc_eq, val1_some, allOne_nil, allOne_cons, one_pv, enum_nil, enum_cons, evG_eq, ↓vrun_cons, ↓run1_some, ↓run2_none, ↓run2_some, ↓run3_some, ↓vcg_none, at_hp, List.map_nil, dcells, List.toList_toArray, List.length_cons, List.length_nil, List.map_cons, List.map_nil, List.cons_append, List.nil_append, List.append_nil, List.take_succ_cons, List.take_nil, List.drop_zero, Option.map_some, ↓reduceIte, Nat.reduceAdd, Nat.reduceLT, Nat.reduceBEq, Int.reduceLT, Int.reduceAdd, Int.reduceBEq, Nat.zero_add, true_and, and_self, Bool.true_and, Bool.and_self, cond_true, Bool.cond_self, beq_self_eq_true, Nat.le_refl, Try.vt26, Try.vzero26, dec_t, Try.f39, Lk.d]
  refine vc_pure hv rfl ?_
  by_cases ho : t.okB = true
  · obtain ⟨hlen, hgood⟩ := (okB_iff t).1 ho
    rw [withoutS, if_pos ho]
    simp (config := { maxSteps := 2000000 }) (implicitDefEqProofs := false) (disch := first | omega | assumption | (simp only [List.length_cons, List.length_nil, Nat.zero_add, Nat.reduceAdd]; done) | (simp only [IntKind.wrap_i64]; omega) | (simp only [List.length_replicate, List.length_set, List.length_append, List.length_cons, List.length_nil, List.length_take, List.length_drop, List.length_map] <;> omega) | fail) only [vop_load, vcallee_load, vop_unOp, vcallee_unOp, vcallee_value, vcal_fn, strip_pv, strip_ptr, strip_agg, strip_fn, optV_none, ev_tmp, ev_func, put_some, at_mk, fits_some, ↓look_cons, ↓vlook_t, ↓vlook_f, guard_none, ↓vrun_nil, ↓code_skip, ↓code_region, ↓code_seq, ↓onNormal_normal, load_ptr, vld_agg, blk_zero, un_not, evG_eq, ↓vrun_cons, ↓run1_some, ↓run2_none, ↓run2_some, ↓run3_some, ↓runK_eq, ↓vcg_none, ↓code_cond, ↓vtest_bool, ↓vbr_false, at_hp, List.map_nil, List.length_cons, List.length_nil, List.map_cons, List.map_nil, List.nil_append, List.append_nil, List.take_succ_cons, List.take_nil, List.drop_zero, Option.map_some, ↓reduceIte, Nat.reduceAdd, Nat.reduceLT, Nat.reduceBEq, Int.reduceLT, Int.reduceAdd, Int.reduceBEq, Nat.zero_add, true_and, Bool.not_true, Bool.true_and, Bool.cond_self, beq_self_eq_true, Nat.le_refl, Try.vt26, dec_t, ho]
    refine vc_own t hs ?_
    simp (config := { maxSteps := 2000000 }) (implicitDefEqProofs := false) (disch := first | omega | assumption | (simp only [List.length_cons, List.length_nil, Nat.zero_add, Nat.reduceAdd]; done) | (simp only [IntKind.wrap_i64]; omega) | (simp only [List.length_replicate, List.length_set, List.length_append, List.length_cons, List.length_nil, List.length_take, List.length_drop, List.length_map] <;> omega) | fail) only [vop_move, vcallee_move, vop_load, vcallee_load, vop_store, vcallee_store, vop_fieldAddr, vcallee_fieldAddr, vcallee_value, vcal_fn, strip_ptr, strip_own, strip_agg, strip_fn, optV_none, ev_tmp, ev_func, put_some, put_none, at_mk, fits_some, fits_none, ↓look_cons, ↓vlook_t, ↓vlook_f, guard_none, ↓vrun_nil, ↓code_region, ↓code_seq, ↓onNormal_normal, load_ptr, vld_one, store_ptr, vst_agg, blk_zero, set_zero, allOne_nil, allOne_cons, one_own, faddr_ptr, vfap_some, evG_eq, ↓vrun_cons, ↓run1_some, ↓run2_none, ↓run2_some, ↓run3_some, ↓runK_eq, ↓vcg_none, at_hp, List.map_nil, V.splice, List.getElem?_cons_zero, List.length_cons, List.length_nil, List.map_cons, List.map_nil, List.cons_append, List.nil_append, List.append_nil, List.take_zero, List.drop_succ_cons, List.drop_nil, Option.map_some, ↓reduceIte, reduceCtorEq, Nat.reduceAdd, Nat.reduceLT, Nat.reduceBEq, Int.reduceLT, Int.reduceAdd, Int.reduceBEq, Nat.zero_add, Nat.add_zero, true_and, and_self, Bool.true_and, Bool.and_self, cond_true, Bool.cond_self, beq_self_eq_true, Nat.le_refl, Try.vt24, Try.vt26, Try.vfield26x0, dec_t]
    refine vc_newP [4] [4] (deleteFG_v t.held (by omega) g1 c1 n1 f1 p hp) rfl ⟨⟨by simp, cells_nums _ _ _⟩, trivial⟩ (by decide) rfl (by simp only [List.map_cons, List.map_nil, r1]; rfl) (by simp only [DV.nums.go, k1]; rfl) (cells_nums _ _ _) ?_
    simp (config := { maxSteps := 2000000 }) (implicitDefEqProofs := false) (disch := first | omega | assumption | (simp only [List.length_cons, List.length_nil, Nat.zero_add, Nat.reduceAdd]; done) | (simp only [IntKind.wrap_i64]; omega) | (simp only [List.length_replicate, List.length_set, List.length_append, List.length_cons, List.length_nil, List.length_take, List.length_drop, List.length_map] <;> omega) | fail) only [vop_move, vcallee_move, vop_load, vcallee_load, vop_store, vcallee_store, vop_fieldAddr, vcallee_fieldAddr, vcallee_value, vcal_fn, strip_ptr, strip_own, strip_fn, optV_none, ev_tmp, ev_func, put_some, put_none, at_mk, fits_some, fits_none, ↓look_cons, ↓vlook_t, ↓vlook_f, guard_none, ↓vrun_nil, ↓code_region, ↓code_seq, ↓onNormal_normal, load_ptr, vld_one, store_ptr, vst_one, blk_zero, set_zero, one_own, faddr_ptr, vfap_some, evG_eq, ↓vrun_cons, ↓run1_some, ↓run2_none, ↓run2_some, ↓run3_some, ↓runK_eq, ↓vcg_none, at_hp, List.map_nil, V.kill, kills, List.getElem?_cons_zero, List.getElem?_cons_succ, List.length_cons, List.length_nil, List.map_cons, List.map_nil, List.cons_append, List.nil_append, List.append_nil, List.set_cons_zero, List.set_cons_succ, Option.map_some, ↓reduceIte, reduceCtorEq, Nat.reduceAdd, Nat.reduceLT, Nat.reduceBEq, Int.reduceLT, Int.reduceAdd, Int.reduceBEq, Nat.zero_add, Nat.add_zero, true_and, and_self, Bool.true_and, Bool.and_self, cond_true, Bool.cond_self, beq_self_eq_true, Try.vt24, Try.vfield26x0, Try.vfield26x1, dec_t]
    refine vc_newP [5] [5] (deleteFG_v t.wait (by omega) g2 c2 n2 f2 q hq) rfl ⟨⟨by simp, cells_nums _ _ _⟩, trivial⟩ (by decide) rfl (by simp only [List.map_cons, List.map_nil, r2]; rfl) (by simp only [DV.nums.go, k2]; rfl) (cells_nums _ _ _) ?_
    simp (config := { maxSteps := 2000000 }) (implicitDefEqProofs := false) (disch := first | omega | assumption | (simp only [List.length_cons, List.length_nil, Nat.zero_add, Nat.reduceAdd]; done) | (simp only [IntKind.wrap_i64]; omega) | (simp only [List.length_replicate, List.length_set, List.length_append, List.length_cons, List.length_nil, List.length_take, List.length_drop, List.length_map] <;> omega) | fail) only [vop_load, vcallee_load, vop_store, vcallee_store, vop_fieldAddr, vcallee_fieldAddr, vcallee_value, vcal_fn, strip_ptr, strip_own, strip_agg, strip_fn, optV_none, ev_tmp, ev_func, put_some, put_none, at_mk, fits_some, fits_none, ↓look_cons, ↓vlook_t, ↓vlook_f, guard_none, ↓vrun_nil, ↓code_region, ↓code_seq, ↓onNormal_normal, load_ptr, vld_agg, store_ptr, vst_one, blk_zero, set_zero, one_own, faddr_ptr, vfap_some, evG_eq, ↓vrun_cons, ↓run1_some, ↓run2_none, ↓run2_some, ↓run3_some, ↓runK_eq, ↓vcg_none, at_hp, List.map_nil, V.kill, kills, List.getElem?_cons_zero, List.getElem?_cons_succ, List.length_cons, List.length_nil, List.map_cons, List.map_nil, List.cons_append, List.nil_append, List.append_nil, List.take_succ_cons, List.take_nil, List.drop_zero, List.set_cons_zero, List.set_cons_succ, Option.map_some, ↓reduceIte, reduceCtorEq, Nat.reduceAdd, Nat.reduceLT, Nat.reduceBEq, Int.reduceLT, Int.reduceAdd, Int.reduceBEq, Nat.zero_add, true_and, and_self, Bool.true_and, Bool.and_self, cond_true, Bool.cond_self, beq_self_eq_true, Nat.le_refl, Try.vt24, Try.vt26, Try.vfield26x1, dec_t]
    have hl1 := keepL_le t.held p
    have hl2 := keepL_le t.wait q
    refine vc_settle (t.less p q) (hgood.less p q) (by show (keepL t.held p).length + (keepL t.wait q).length ≤ _; omega) rfl rfl rfl rfl (by decide) ?_
    simp (config := { maxSteps := 2000000 }) (implicitDefEqProofs := false) (disch := first | omega | assumption | (simp only [List.length_cons, List.length_nil, Nat.zero_add, Nat.reduceAdd]; done) | (simp only [IntKind.wrap_i64]; omega) | (simp only [List.length_replicate, List.length_set, List.length_append, List.length_cons, List.length_nil, List.length_take, List.length_drop, List.length_map] <;> omega) | fail) only [vop_store, vcallee_store, strip_ptr, strip_agg, optV_none, ev_tmp, put_some, put_none, at_mk, fits_none, ↓look_cons, ↓vlook_t, ↓vlook_f, guard_none, ↓vrun_nil, ↓code_ret, ↓onNormal_normal, frz_agg, frz1_pv, allSome_nil, allSome_cons, frzHeap_zero, res_one, vres_cell, load_ptr, vld_agg, store_ptr, vst_agg, blk_zero, blk_succ, set_zero, set_succ, allOne_nil, allOne_cons, one_pv, evG_eq, ↓vrun_cons, ↓run1_some, ↓run2_none, ↓run3_some, ↓runK_eq, ↓vpost_ret, vfin_some, vfin2_some, at_hp, List.map_nil, V.kill, kills, V.splice, List.getElem?_cons_zero, List.getElem?_cons_succ, List.length_cons, List.length_nil, List.map_cons, List.map_nil, List.nil_append, List.append_nil, List.take_succ_cons, List.take_zero, List.take_nil, List.drop_succ_cons, List.drop_zero, List.drop_nil, List.set_cons_zero, List.set_cons_succ, Option.map_some, ↓reduceIte, Nat.reduceAdd, Nat.reduceBEq, Int.reduceAdd, Int.reduceBEq, Nat.zero_add, and_self, Bool.and_self, cond_true, beq_self_eq_true, Nat.le_refl, RetW, DV.wk, DV.wk.go, PV.wk, Try.vt26, DV.nums, DV.nums.go, Lk.d]
  · have ho' : t.okB = false := by simpa using ho
    rw [withoutS, if_neg ho]
    simp (config := { maxSteps := 2000000 }) (implicitDefEqProofs := false) (disch := first | omega | assumption | (simp only [List.length_cons, List.length_nil, Nat.zero_add, Nat.reduceAdd]; done) | (simp only [IntKind.wrap_i64]; omega) | (simp only [List.length_replicate, List.length_set, List.length_append, List.length_cons, List.length_nil, List.length_take, List.length_drop, List.length_map] <;> omega) | fail) only [vop_load, vcallee_load, vop_store, vcallee_store, vop_unOp, vcallee_unOp, strip_pv, strip_ptr, strip_agg, optV_none, ev_tmp, put_some, put_none, at_mk, fits_some, fits_none, ↓look_cons, ↓vlook_t, ↓vlook_f, guard_none, ↓vrun_nil, ↓code_region, ↓code_seq, ↓code_ret, ↓onNormal_normal, ↓onNormal_ret, frz_agg, frz1_pv, allSome_nil, allSome_cons, frzHeap_zero, res_one, vres_cell, load_ptr, vld_agg, store_ptr, vst_agg, blk_zero, blk_succ, set_zero, set_succ, allOne_nil, allOne_cons, one_pv, un_not, evG_eq, ↓vrun_cons, ↓run1_some, ↓run2_none, ↓run3_some, ↓runK_eq, ↓code_cond, ↓vtest_bool, ↓vbr_true, ↓vpost_ret, vfin_some, vfin2_some, at_hp, List.map_nil, V.splice, List.length_cons, List.length_nil, List.map_cons, List.map_nil, List.nil_append, List.append_nil, List.take_succ_cons, List.take_zero, List.take_nil, List.drop_succ_cons, List.drop_zero, List.drop_nil, Option.map_some, ↓reduceIte, Nat.reduceAdd, Nat.reduceLT, Nat.reduceBEq, Int.reduceLT, Int.reduceAdd, Int.reduceBEq, Nat.zero_add, and_self, Bool.not_false, Bool.and_self, cond_true, Bool.cond_self, beq_self_eq_true, Nat.le_refl, RetW, DV.wk, DV.wk.go, PV.wk, Try.vt26, dec_t, DV.nums, DV.nums.go, ho']
theorem release1_v (tx : Int) (x : Gr) : VCalls Try.prog 38 [.agg [.int .i64 x.tx, .int .i64 x.pg, .int .i64 x.sl, .int .i64 x.md], .ip [.lit (.int .i64 tx)]] [] (Ret (.bool (decide (x.tx = tx)))) := by
  refine vcalls_drop (fn := Try.f38) Try.func38 rfl (by kernel_rfl) (by simp [Try.f38]) ?_
  by_cases h : x.tx = tx <;> simp (config := { maxSteps := 2000000 }) (implicitDefEqProofs := false) (disch := first | omega | assumption | (simp only [List.length_cons, List.length_nil, Nat.zero_add, Nat.reduceAdd]; done) | (simp only [IntKind.wrap_i64]; omega) | (simp only [List.length_replicate, List.length_set, List.length_append, List.length_cons, List.length_nil, List.length_take, List.length_drop, List.length_map] <;> omega) | fail) only [vop_assign, vcallee_assign, vop_box, vcallee_box, vop_load, vcallee_load, vop_binOp, vcallee_binOp, vop_fieldAddr, vcallee_fieldAddr, bin2_tmp, strip_pv, strip_ptr, strip_ip, strip_agg, optV_none, ev_tmp, ev_const, ofConst_bool, put_some, at_mk, fits_some, ↓look_cons, ↓vlook_t, ↓vlook_f, guard_none, ↓vrun_nil, ↓code_region, ↓code_seq, ↓code_ret, ↓onNormal_normal, frz_pv, frzHeap_zero, res_one, vres_tmp, load_ptr, load_ip, vld_one, vldp_one, blk_zero, box_eq, allOne_nil, allOne_cons, one_pv, faddr_ptr, vfap_some, bin_int, int_eql, enum_nil, enum_cons, evG_eq, ↓vrun_cons, ↓run1_some, ↓run2_none, ↓run3_some, ↓vpost_ret, vfin_some, vfin2_some, at_hp, dcells, List.toList_toArray, List.getElem?_cons_zero, List.length_nil, List.nil_append, Option.map_some, ↓reduceIte, reduceCtorEq, Nat.reduceAdd, Nat.reduceLT, Nat.reduceBEq, Int.reduceLT, Int.reduceAdd, Int.reduceBEq, Nat.zero_add, Nat.add_zero, decide_false, and_self, Bool.and_self, cond_true, Bool.cond_self, beq_self_eq_true, Try.vt3, Try.vfield33x0, dec_t, int_beq_f, Ret, DV.nums, Try.f38, h]
def releaseS (t : Lk) (tx : Int) : Lk := withoutS t (fun x => decide (x.tx = tx)) (fun x => decide (x.tx = tx))
theorem release_v (t : Lk) (hs : t.sm) (tx : Int) : VCalls Try.prog 11 [t.d, .int .i64 tx] [] (Ret (releaseS t tx).d) := by
  refine vcalls_drop (fn := Try.f11) Try.func11 rfl (by kernel_rfl) (by simp [Try.f11]) ?_
  have hw := without_v t hs 38 38 [.ip [.lit (.int .i64 tx)]] [.ip [.lit (.int .i64 tx)]] rfl rfl (fun _ => rfl) (fun _ => rfl) (fun x => decide (x.tx = tx)) (fun x => decide (x.tx = tx)) (fun x _ => release1_v tx x) (fun x _ => release1_v tx x)
  unfold Lk.d at hw
  simp (config := { maxSteps := 2000000 }) (implicitDefEqProofs := false) (disch := first | omega | assumption | (simp only [List.length_cons, List.length_nil, Nat.zero_add, Nat.reduceAdd]; done) | (simp only [IntKind.wrap_i64]; omega) | (simp only [List.length_replicate, List.length_set, List.length_append, List.length_cons, List.length_nil, List.length_take, List.length_drop, List.length_map] <;> omega) | fail) only [vop_move, vcallee_move, vop_assign, vcallee_assign, vop_alloc, vcallee_alloc, vop_box, vcallee_box, vop_load, vcallee_load, vop_makeFunc, vcallee_makeFunc, vcallee_value, vcal_fn, strip_pv, strip_ptr, strip_agg, strip_fn, optV_none, ev_tmp, ev_func, put_some, at_mk, fits_some, ↓look_cons, ↓vlook_t, ↓vlook_f, guard_none, ↓vrun_nil, ↓code_region, ↓code_seq, ↓onNormal_normal, load_ptr, vld_agg, blk_zero, box_eq, alloc_eq, val1_some, allOne_nil, allOne_cons, one_pv, enum_nil, enum_cons, evG_eq, ↓vrun_cons, ↓run1_some, ↓run2_none, ↓run2_some, ↓run3_some, ↓vcg_none, at_hp, List.map_nil, dcells, List.toList_toArray, List.length_cons, List.length_nil, List.map_cons, List.map_nil, List.cons_append, List.nil_append, List.append_nil, List.take_succ_cons, List.take_nil, List.drop_zero, Option.map_some, ↓reduceIte, Nat.reduceAdd, Nat.reduceLT, Nat.reduceBEq, Int.reduceLT, Int.reduceAdd, Int.reduceBEq, Nat.zero_add, true_and, and_self, Bool.true_and, Bool.and_self, cond_true, Bool.cond_self, beq_self_eq_true, Nat.le_refl, Try.vt26, Try.vzero26, dec_t, Try.f11, Lk.d]
  refine vc_giveA [1] [.agg [.pv (.sl (fz encG t.held)), .pv (.sl (fz encG t.wait))], .fn (.func 38) [] [.ptr 0 0], .fn (.func 38) [] [.ptr 0 0]] [⟨3, true, [.int .i64 tx]⟩] hw rfl ⟨⟨by simp, rfl⟩, trivial⟩ (by decide) rfl rfl (by simp (config := { maxSteps := 2000000 }) (implicitDefEqProofs := false) (disch := first | omega | assumption | (simp only [List.length_cons, List.length_nil, Nat.zero_add, Nat.reduceAdd]; done) | (simp only [IntKind.wrap_i64]; omega) | (simp only [List.length_replicate, List.length_set, List.length_append, List.length_cons, List.length_nil, List.length_take, List.length_drop, List.length_map] <;> omega) | fail) only [allSome_nil, allSome_cons, blk_zero, List.map_nil, List.length_cons, List.length_nil, List.map_cons, List.map_nil, List.drop_zero, Option.map_some, Nat.reduceAdd, Nat.reduceLT, Int.reduceLT, Int.reduceAdd, Nat.zero_add, frzP_pv, frzA_agg, frzB_pv, frzA_fn, frzF_some, frzB_ptrE, frzQ_some]) ?_
  simp (config := { maxSteps := 2000000 }) (implicitDefEqProofs := false) (disch := first | omega | assumption | (simp only [List.length_cons, List.length_nil, Nat.zero_add, Nat.reduceAdd]; done) | (simp only [IntKind.wrap_i64]; omega) | (simp only [List.length_replicate, List.length_set, List.length_append, List.length_cons, List.length_nil, List.length_take, List.length_drop, List.length_map] <;> omega) | fail) only [vop_store, vcallee_store, strip_ptr, strip_agg, optV_none, ev_tmp, put_some, put_none, at_mk, fits_none, ↓look_cons, ↓vlook_t, ↓vlook_f, guard_none, ↓vrun_nil, ↓code_ret, ↓onNormal_normal, frz_agg, frz1_pv, allSome_nil, allSome_cons, frzHeap_zero, res_one, vres_cell, load_ptr, vld_agg, store_ptr, vst_agg, blk_zero, blk_succ, set_zero, set_succ, allOne_nil, allOne_cons, one_pv, evG_eq, ↓vrun_cons, ↓run1_some, ↓run2_none, ↓run3_some, ↓runK_eq, ↓vpost_ret, vfin_some, vfin2_some, at_hp, List.map_nil, V.kill, kills, V.splice, List.getElem?_cons_zero, List.getElem?_cons_succ, List.length_cons, List.length_nil, List.map_cons, List.map_nil, List.nil_append, List.append_nil, List.take_succ_cons, List.take_zero, List.take_nil, List.drop_succ_cons, List.drop_zero, List.drop_nil, List.set_cons_zero, List.set_cons_succ, Option.map_some, ↓reduceIte, Nat.reduceAdd, Nat.reduceBEq, Int.reduceAdd, Int.reduceBEq, Nat.zero_add, true_and, and_self, Bool.true_and, Bool.and_self, cond_true, beq_self_eq_true, Nat.le_refl, DV.wk.go, Try.vt26, Ret, DV.nums, DV.nums.go]
  rfl
end Go.Proofs.Ytjiaadkncpajnaa

namespace Go.Proofs.Ytjiaadkncpajnaa
open Go.V Go
set_option maxRecDepth 100000
set_option linter.unusedSimpArgs false

/-! Plain: one lock, asked for in order. -/
section
variable (ms : List UInt8)
def exB (i : Nat) : Bool := decide ((ms.getD i 0).toNat % 2 = 1)
def og (i : Nat) : Gr := ⟨(i : Int) + 1, 3, 3, 1 + ((ms.getD i 0).toNat % 2 : Nat)⟩
def seqG (a b : Nat) : List Gr := (List.range' a (b - a)).map (og ms)
def seqT (i a m : Nat) : Lk := ⟨seqG ms i a, seqG ms a m⟩
structure Cons (i a m : Nat) : Prop where
  h1 : i ≤ a
  h2 : a ≤ m
  h3 : a ≤ i + 1 ∨ ∀ j, i ≤ j → j < a → exB ms j = false
structure Full (i a m : Nat) : Prop extends Cons ms i a m where
  h4 : a = m ∨ (i < a ∧ (exB ms i = true ∨ exB ms a = true))
theorem seqG_len (a b : Nat) : (seqG ms a b).length = b - a := by simp [seqG]
theorem seqG_get (a b k : Nat) (h : k < (seqG ms a b).length) : (seqG ms a b)[k] = og ms (a + k) := by
  simp [seqG, List.getElem_range']
theorem mem_seqG {a b : Nat} {x : Gr} : x ∈ seqG ms a b ↔ ∃ j, a ≤ j ∧ j < b ∧ og ms j = x := by
  simp only [seqG, List.mem_map, List.mem_range'_1]
  constructor
  · rintro ⟨j, h, rfl⟩; exact ⟨j, by omega, by omega, rfl⟩
  · rintro ⟨j, h1, h2, rfl⟩; exact ⟨j, by omega, rfl⟩
theorem og_md (i : Nat) : (og ms i).md = if exB ms i = true then 2 else 1 := by
  have h2 : (og ms i).md = 1 + (((ms.getD i 0).toNat % 2 : Nat) : Int) := rfl
  rw [h2]
  unfold exB
  rcases Nat.mod_two_eq_zero_or_one (ms.getD i 0).toNat with e | e
  · rw [e]; rfl
  · rw [e]; rfl
theorem og_conf (i j : Nat) : confB (og ms i) (og ms j) = true ↔ i ≠ j ∧ (exB ms i = true ∨ exB ms j = true) := by
  rw [confB_iff, og_md, og_md]
  have h1 : (og ms i).tx = i + 1 := rfl
  have h2 : (og ms j).tx = j + 1 := rfl
  have h3 : (og ms i).pg = 3 := rfl
  have h4 : (og ms j).pg = 3 := rfl
  have h5 : (og ms i).sl = 3 := rfl
  have h6 : (og ms j).sl = 3 := rfl
  rw [h1, h2, h3, h4, h5, h6]
  constructor
  · rintro ⟨g1, _, _, g2⟩
    refine ⟨by omega, ?_⟩
    rcases g2 with g2 | g2
    · left; cases h : exB ms i <;> simp [h] at g2 ⊢
    · right; cases h : exB ms j <;> simp [h] at g2 ⊢
  · rintro ⟨g1, g2⟩
    refine ⟨by omega, rfl, rfl, ?_⟩
    rcases g2 with g2 | g2 <;> simp [g2]
theorem og_ok (i : Nat) (h : i < 1000) : (og ms i).okB = true := by
  have h3 := og_md ms i
  have h4 : (og ms i).md = 1 ∨ (og ms i).md = 2 := by rw [h3]; split <;> simp
  simp only [Gr.okB, Bool.and_eq_true, Bool.or_eq_true, decide_eq_true_eq]
  have h1 : (og ms i).tx = i + 1 := rfl
  have h2 : (og ms i).pg = 3 := rfl
  have h5 : (og ms i).sl = 3 := rfl
  rw [h1, h2, h5]
  omega
theorem seqG_sorted (a b : Nat) : sortedG (seqG ms a b) := by
  rw [sortedG, List.pairwise_iff_getElem]
  intro i j hi hj hij
  rw [seqG_get, seqG_get, ordG_lt]
  right
  refine ⟨rfl, .inr ⟨rfl, ?_⟩⟩
  show ((a + i : Nat) : Int) + 1 < ((a + j : Nat) : Int) + 1
  omega
theorem seqG_mode (a b j : Nat) : modeS (seqG ms a b) (j + 1) 3 3 = if a ≤ j ∧ j < b then (og ms j).md else 0 := by
  split
  · rename_i h
    exact modeS_in _ (seqG_sorted ms a b) (og ms j) ((mem_seqG ms).2 ⟨j, h.1, h.2, rfl⟩)
  · rename_i h
    refine modeS_out _ _ _ _ fun x hx => ?_
    obtain ⟨k, h1, h2, rfl⟩ := (mem_seqG ms).1 hx
    rw [Bool.eq_false_iff, ne_eq, keyB_eq]
    simp only [og]
    omega
theorem og_pos (j : Nat) : 1 ≤ (og ms j).md := by rw [og_md]; split <;> omega
theorem seqT_good {i a m : Nat} (h : Cons ms i a m) (hm : m ≤ 1000) : (seqT ms i a m).Good := by
  have h1 := h.h1
  have h2 := h.h2
  refine ⟨seqG_sorted ms i a, ?_, ?_, ?_, ?_, ?_⟩
  · intro g hg
    obtain ⟨j, g1, g2, rfl⟩ := (mem_seqG ms).1 hg
    exact og_ok ms j (by omega)
  · intro x hx y hy
    obtain ⟨j, g1, g2, rfl⟩ := (mem_seqG ms).1 hx
    obtain ⟨k, g3, g4, rfl⟩ := (mem_seqG ms).1 hy
    rw [Bool.eq_false_iff, ne_eq, og_conf]
    rintro ⟨g5, g6⟩
    rcases h.h3 with h3 | h3
    · omega
    · rw [h3 j g1 g2, h3 k g3 g4] at g6; simp at g6
  · intro g hg
    obtain ⟨j, g1, g2, rfl⟩ := (mem_seqG ms).1 hg
    exact og_ok ms j (by omega)
  · intro g hg
    obtain ⟨j, g1, g2, rfl⟩ := (mem_seqG ms).1 hg
    have := seqG_mode ms i a j
    rw [if_neg (by omega)] at this
    have e : modeS (seqT ms i a m).held (og ms j).tx (og ms j).pg (og ms j).sl = 0 := this
    rw [e]
    have := og_pos ms j
    omega
  · show (seqG ms a m).Pairwise _
    rw [List.pairwise_iff_getElem]
    intro p q hp hq hpq
    rw [seqG_get, seqG_get]
    simp only [og]
    omega
theorem seqG_succ (a b : Nat) (h : a ≤ b) : seqG ms a (b + 1) = seqG ms a b ++ [og ms b] := by
  unfold seqG
  rw [show b + 1 - a = (b - a) + 1 by omega, List.range'_1_concat, List.map_append, show a + (b - a) = b by omega]; rfl
theorem seqG_cons (a b : Nat) (h : a < b) : seqG ms a b = og ms a :: seqG ms (a + 1) b := by
  unfold seqG
  rw [show b - a = (b - (a + 1)) + 1 by omega, List.range'_succ]; rfl
theorem seqT_hold (i a : Nat) (h : i ≤ a) : holdS (seqG ms i a) (og ms a) = seqG ms i (a + 1) := by
  have hs := seqG_sorted ms i a
  have hlo : flo (seqG ms i a) (og ms a) = (seqG ms i a).length := by
    rcases Nat.lt_or_ge (flo (seqG ms i a) (og ms a)) (seqG ms i a).length with hlt | hge
    · exfalso
      unfold flo at hlt
      have hge := flo_ge _ hs (og ms a).tx (og ms a).pg (og ms a).sl _ (Nat.le_refl _) hlt
      have hl := hlt
      rw [seqG_len] at hl
      generalize floG (seqG ms i a) (og ms a).tx (og ms a).pg (og ms a).sl = q at *
      rw [seqG_get, ordG_lt] at hge
      apply hge
      right
      refine ⟨rfl, .inr ⟨rfl, ?_⟩⟩
      show ((i + q : Nat) : Int) + 1 < (a : Int) + 1
      omega
    · exact Nat.le_antisymm (flo_le _ _ _ _) hge
  have hn := flo_num (seqG ms i a) (og ms a)
  rw [holdS, hlo, List.take_length, List.drop_of_length_le (by omega), seqG_succ ms i a h]
theorem seq_blk {i a m : Nat} (h : Full ms i a m) (k : Nat) (hk : k < (seqT ms i a m).wait.length) : (seqT ms i a m).blkB k = true := by
  have hl : (seqT ms i a m).wait.length = m - a := seqG_len ms a m
  have h1 := h.h1
  rw [Lk.blkB_iff _ k hk]
  have e : (seqT ms i a m).wait[k] = og ms (a + k) := seqG_get ms a m k _
  rw [e]
  rcases h.h4 with h4 | ⟨h4, h5⟩
  · omega
  · rcases h5 with h5 | h5
    · exact .inl ⟨og ms i, (mem_seqG ms).2 ⟨i, Nat.le_refl _, h4, rfl⟩, (og_conf ms _ _).2 ⟨by omega, .inl h5⟩⟩
    · rcases Nat.eq_zero_or_pos k with hz | hz
      · subst hz
        exact .inl ⟨og ms i, (mem_seqG ms).2 ⟨i, Nat.le_refl _, h4, rfl⟩, (og_conf ms _ _).2 ⟨by omega, .inr h5⟩⟩
      · refine .inr ⟨0, hz, ?_⟩
        have e0 : (seqT ms i a m).wait[0]'(by omega) = og ms (a + 0) := seqG_get ms a m 0 _
        rw [e0]
        exact (og_conf ms _ _).2 ⟨by omega, .inl h5⟩
theorem seq_settle (n : Nat) : ∀ {i a m : Nat}, m - a = n → Cons ms i a m → ∃ b, Full ms i b m ∧ (seqT ms i a m).settle = seqT ms i b m := by
  induction n with
  | zero =>
    intro i a m hn h
    have h2 := h.h2
    refine ⟨a, ⟨h, .inl (by omega)⟩, Lk.settle_none (Lk.first_none fun k hk => ?_)⟩
    exact seq_blk ms ⟨h, .inl (by omega)⟩ k hk
  | succ n ih =>
    intro i a m hn h
    have h1 := h.h1
    have h2 := h.h2
    by_cases hf : i < a ∧ (exB ms i = true ∨ exB ms a = true)
    · exact ⟨a, ⟨h, .inr hf⟩, Lk.settle_none (Lk.first_none fun k hk => seq_blk ms ⟨h, .inr hf⟩ k hk)⟩
    · have hl : (seqT ms i a m).wait.length = m - a := seqG_len ms a m
      have hc : Cons ms i (a + 1) m := by
        refine ⟨by omega, by omega, ?_⟩
        rcases Nat.eq_or_lt_of_le h1 with he | hlt
        · left; omega
        · right
          have hni : exB ms i = false := by cases hx : exB ms i with
            | false => rfl
            | true => exact absurd ⟨hlt, .inl hx⟩ hf
          have hna : exB ms a = false := by cases hx : exB ms a with
            | false => rfl
            | true => exact absurd ⟨hlt, .inr hx⟩ hf
          intro j g1 g2
          rcases Nat.lt_or_ge j a with g3 | g3
          · rcases h.h3 with h3 | h3
            · have : j = i := by omega
              rw [this]; exact hni
            · exact h3 j g1 g3
          · have : j = a := by omega
            rw [this]; exact hna
      have hb : (seqT ms i a m).blkB 0 = false := by
        rw [Bool.eq_false_iff]
        intro hx
        rcases (Lk.blkB_iff _ 0 (by omega)).1 hx with ⟨x, g1, g2⟩ | ⟨k, hk, _⟩
        · obtain ⟨j, g3, g4, rfl⟩ := (mem_seqG ms).1 g1
          have e0 : (seqT ms i a m).wait[0]'(by omega) = og ms (a + 0) := seqG_get ms a m 0 _
          rw [e0] at g2
          have g5 := (og_conf ms _ _).1 g2
          rcases hc.h3 with h3 | h3
          · omega
          · rw [h3 j g3 (by omega), h3 (a + 0) (by omega) (by omega)] at g5
            simp at g5
        · omega
      have hmv : (seqT ms i a m).mv 0 = seqT ms i (a + 1) m := by
        unfold Lk.mv
        rw [getD_eq _ 0 (by omega)]
        have e0 : (seqT ms i a m).wait[0]'(by omega) = og ms (a + 0) := seqG_get ms a m 0 _
        rw [e0]
        show (⟨holdS (seqG ms i a) (og ms a), (seqG ms a m).take 0 ++ (seqG ms a m).drop 1⟩ : Lk) = ⟨seqG ms i (a + 1), seqG ms (a + 1) m⟩
        rw [seqT_hold ms i a h1, seqG_cons ms a m (by omega)]
        rfl
      rw [Lk.settle_some (Lk.first_some (by omega) hb fun k hk => by omega), hmv]
      exact ih (by omega) hc
theorem seq_find {i a m j : Nat} (h : i ≤ a ∧ a ≤ m) (hj : m ≤ j) : (seqT ms i a m).waits ((j : Int) + 1) = none := by
  unfold Lk.waits
  rw [List.find?_eq_none]
  intro x hx
  obtain ⟨k, h1, h2, rfl⟩ := (mem_seqG ms).1 hx
  have : (og ms k).tx = k + 1 := rfl
  rw [this, decide_eq_true_eq]
  omega
/-- One asks more. -/
theorem seq_req {a m : Nat} (h : Full ms 0 a m) (hm : m < 1000) : ∃ b c, Full ms 0 b (m + 1) ∧ reqS (seqT ms 0 a m) (og ms m) = (seqT ms 0 b (m + 1), c, 0) := by
  have h2 := h.h2
  have hg := seqT_good ms h.toCons (by omega)
  have hl1 : (seqT ms 0 a m).held.length = a := by rw [seqT, seqG_len]; rfl
  have hl2 : (seqT ms 0 a m).wait.length = m - a := seqG_len ms a m
  have hok : (seqT ms 0 a m).okB = true := (okB_iff _).2 ⟨by omega, hg⟩
  have hm0 : modeS (seqT ms 0 a m).held (og ms m).tx (og ms m).pg (og ms m).sl = 0 := by
    have := seqG_mode ms 0 a m
    rw [if_neg (by omega)] at this
    exact this
  have hp := og_pos ms m
  have hc : Cons ms 0 a (m + 1) := ⟨h.h1, by omega, h.h3⟩
  have hadd : (seqT ms 0 a m).add (og ms m) = seqT ms 0 a (m + 1) := by
    unfold Lk.add placeS
    rw [if_pos hm0, List.take_length, List.drop_length]
    show (⟨seqG ms 0 a, seqG ms a m ++ [og ms m]⟩ : Lk) = ⟨seqG ms 0 a, seqG ms a (m + 1)⟩
    rw [seqG_succ ms a m h2]
  obtain ⟨b, hb1, hb2⟩ := seq_settle ms _ rfl hc
  have hwt : (seqT ms 0 a m).waits (og ms m).tx = none := seq_find ms ⟨h.h1, h2⟩ (Nat.le_refl m)
  refine ⟨b, decide ((og ms m).md ≤ modeS (seqT ms 0 b (m + 1)).held (og ms m).tx (og ms m).pg (og ms m).sl), hb1, ?_⟩
  unfold reqS
  rw [if_neg (by rw [hok]; decide), if_neg (by rw [og_ok ms m hm]; decide), hwt]
  dsimp only
  rw [if_neg (by omega), if_neg (by omega), hadd, hb2]
theorem seq_keep (i a j : Nat) (h : i < a) : keepL (seqG ms i a) (fun x => decide (x.tx = (i : Int) + 1)) = seqG ms (i + 1) a := by
  rw [seqG_cons ms i a h, keepL, List.filter_cons, if_neg (by simp [og])]
  rw [List.filter_eq_self]
  intro x hx
  obtain ⟨k, h1, h2, rfl⟩ := (mem_seqG ms).1 hx
  simp [og]
  omega
/-- The first one goes. -/
theorem seq_rel {i a m : Nat} (h : Full ms i a m) (hi : i < m) (hm : m ≤ 1000) : ∃ b, Full ms (i + 1) b m ∧ releaseS (seqT ms i a m) ((i : Int) + 1) = seqT ms (i + 1) b m := by
  have h1 := h.h1
  have h2 := h.h2
  have hia : i < a := by rcases h.h4 with h4 | h4 <;> omega
  have hg := seqT_good ms h.toCons hm
  have hl1 : (seqT ms i a m).held.length = a - i := seqG_len ms i a
  have hl2 : (seqT ms i a m).wait.length = m - a := seqG_len ms a m
  have hok : (seqT ms i a m).okB = true := (okB_iff _).2 ⟨by omega, hg⟩
  have hc : Cons ms (i + 1) a m := ⟨by omega, h2, by
    rcases h.h3 with h3 | h3
    · left; omega
    · right; exact fun j g1 g2 => h3 j (by omega) g2⟩
  obtain ⟨b, hb1, hb2⟩ := seq_settle ms _ rfl hc
  refine ⟨b, hb1, ?_⟩
  unfold releaseS withoutS
  rw [if_pos hok, ← hb2]
  congr 1
  unfold Lk.less
  show (⟨keepL (seqG ms i a) _, keepL (seqG ms a m) _⟩ : Lk) = ⟨seqG ms (i + 1) a, seqG ms a m⟩
  rw [seq_keep ms i a 0 hia, keepL_none (seqG ms a m)]
  intro x hx
  obtain ⟨k, g1, g2, rfl⟩ := (mem_seqG ms).1 hx
  simp [og]
  omega
theorem seq_mode {i a m : Nat} (h : Full ms i a m) (hm : m ≤ 1000) (j : Nat) : (0 < (if (seqT ms i a m).okB = true then modeS (seqT ms i a m).held ((j : Int) + 1) 3 3 else 0)) ↔ i ≤ j ∧ j < a := by
  have h1 := h.h1
  have h2 := h.h2
  have hg := seqT_good ms h.toCons hm
  have hl1 : (seqT ms i a m).held.length = a - i := seqG_len ms i a
  have hl2 : (seqT ms i a m).wait.length = m - a := seqG_len ms a m
  have hok : (seqT ms i a m).okB = true := (okB_iff _).2 ⟨by omega, hg⟩
  rw [if_pos hok]
  have := seqG_mode ms i a j
  have e : modeS (seqT ms i a m).held ((j : Int) + 1) 3 3 = _ := this
  rw [e]
  have := og_pos ms j
  split <;> omega
/-- Who holds. -/
theorem full_last {i a m : Nat} (h : Full ms i a m) (hi : i < m) (l : Nat) (hl : i ≤ l) (hlm : l < m) (hs : exB ms i = false → ∀ j, i ≤ j → j ≤ l → exB ms j = false) (he : exB ms i = true → l = i) (hn : exB ms i = false → l + 1 < m → exB ms (l + 1) = true) : l + 1 = a := by
  have h1 := h.h1
  have h2 := h.h2
  have hia : i < a := by rcases h.h4 with h4 | h4 <;> omega
  cases hx : exB ms i with
  | true =>
    have := he hx
    rcases h.h3 with h3 | h3
    · omega
    · rw [h3 i (Nat.le_refl _) hia] at hx; cases hx
  | false =>
    rcases Nat.lt_trichotomy (l + 1) a with hlt | heq | hgt
    · have h5 := hn hx (by omega)
      rcases h.h3 with h3 | h3
      · omega
      · rw [h3 (l + 1) (by omega) hlt] at h5; cases h5
    · exact heq
    · rcases h.h4 with h4 | ⟨_, h5⟩
      · omega
      · rw [hs hx a (by omega) (by omega), hx] at h5; simp at h5
end
end Go.Proofs.Ytjiaadkncpajnaa

namespace Go.Proofs.Ytjiaadkncpajnaa
open Go.V Go
set_option maxRecDepth 100000
set_option linter.unusedSimpArgs false

theorem allEq_g (x y : Gr) : allEq [.pv (.lit (.int .i64 x.tx)), .pv (.lit (.int .i64 x.pg)), .pv (.lit (.int .i64 x.sl)), .pv (.lit (.int .i64 x.md))] [.pv (.lit (.int .i64 y.tx)), .pv (.lit (.int .i64 y.pg)), .pv (.lit (.int .i64 y.sl)), .pv (.lit (.int .i64 y.md))] [(0, 1), (1, 1), (2, 1), (3, 1)] = some (decide (x = y)) := by
  obtain ⟨a, b, c, d⟩ := x
  obtain ⟨a', b', c', d'⟩ := y
  simp [allEq, leafEq]
  grind
def reqD (x : Lk × Bool × Int) : DV := .tup [x.1.d, .bool x.2.1, .int .i64 x.2.2]
set_option maxHeartbeats 2000000 in
theorem request_v (t : Lk) (hs : t.sm) (g : Gr) : VCalls Try.prog 9 [t.d, g.d] [] (Ret (reqD (reqS t g))) := by
  refine VCalls.unwk ?_
  refine vcalls_drop (fn := Try.f9) Try.func9 rfl (by kernel_rfl) (by simp [Try.f9]) ?_
  have hv := valid_v t hs
  have hvg := valid1_v g
  have hw := waiting_v t hs g.tx
  unfold Lk.d at hv hw
  unfold Gr.d at hvg
  simp (config := { maxSteps := 2000000 }) (implicitDefEqProofs := false) (disch := first | omega | assumption | (simp only [List.length_cons, List.length_nil, Nat.zero_add, Nat.reduceAdd]; done) | (simp only [IntKind.wrap_i64]; omega) | (simp only [List.length_replicate, List.length_set, List.length_append, List.length_cons, List.length_nil, List.length_take, List.length_drop, List.length_map] <;> omega) | fail) only [vop_assign, vcallee_assign, vop_alloc, vcallee_alloc, vop_box, vcallee_box, vop_load, vcallee_load, vcallee_value, vcal_fn, strip_pv, strip_ptr, strip_agg, strip_fn, optV_none, ev_tmp, ev_const, ev_func, ofConst_int, ofConst_bool, put_some, at_mk, fits_some, ↓look_cons, ↓vlook_t, ↓vlook_f, guard_none, ↓vrun_nil, ↓code_region, ↓code_seq, ↓code_block, ↓onNormal_normal, load_ptr, vld_agg, blk_zero, box_eq, alloc_eq, val1_some, allOne_nil, allOne_cons, one_pv, enum_nil, enum_cons, evG_eq, ↓vrun_cons, ↓run1_some, ↓run2_none, ↓run2_some, ↓run3_some, ↓vcg_none, at_hp, List.map_nil, dcells, List.toList_toArray, List.length_cons, List.length_nil, List.map_cons, List.map_nil, List.cons_append, List.nil_append, List.append_nil, List.take_succ_cons, List.take_nil, List.drop_zero, Option.map_some, ↓reduceIte, Nat.reduceAdd, Nat.reduceLT, Nat.reduceBEq, Int.reduceLT, Int.reduceAdd, Int.reduceBEq, Nat.zero_add, true_and, and_self, Bool.true_and, Bool.and_self, cond_true, Bool.cond_self, beq_self_eq_true, Nat.le_refl, Try.vt26, Try.vzero26, dec_t, Try.f9, Lk.d, Gr.d]
  refine vc_pure hv rfl ?_
  by_cases ho : t.okB = true
  · obtain ⟨hlen, hgood⟩ := (okB_iff t).1 ho
    rw [Lk.waitS, if_pos ho] at hw
    have hm := mode_v t hs hgood.srt g.tx g.pg g.sl
    unfold Lk.d at hm
    unfold reqS
    rw [if_neg (by rw [ho]; decide)]
    simp (config := { maxSteps := 2000000 }) (implicitDefEqProofs := false) (disch := first | omega | assumption | (simp only [List.length_cons, List.length_nil, Nat.zero_add, Nat.reduceAdd]; done) | (simp only [IntKind.wrap_i64]; omega) | (simp only [List.length_replicate, List.length_set, List.length_append, List.length_cons, List.length_nil, List.length_take, List.length_drop, List.length_map] <;> omega) | fail) only [vop_assign, vcallee_assign, vop_load, vcallee_load, vop_unOp, vcallee_unOp, vcallee_value, vcal_fn, strip_pv, strip_ptr, strip_agg, strip_fn, optV_none, ev_tmp, ev_func, put_some, at_mk, fits_some, ↓look_cons, ↓vlook_t, ↓vlook_f, guard_none, ↓vrun_nil, ↓code_region, ↓code_seq, ↓onNormal_normal, load_ptr, vld_agg, blk_zero, blk_succ, un_not, evG_eq, ↓vrun_cons, ↓run1_some, ↓run2_none, ↓run2_some, ↓run3_some, ↓runK_eq, ↓vcg_none, ↓code_cond, ↓vtest_bool, ↓vbr_false, at_hp, List.map_nil, List.length_cons, List.length_nil, List.map_cons, List.map_nil, List.nil_append, List.append_nil, List.take_succ_cons, List.take_nil, List.drop_zero, Option.map_some, ↓reduceIte, Nat.reduceAdd, Nat.reduceLT, Nat.reduceBEq, Int.reduceLT, Int.reduceAdd, Int.reduceBEq, Nat.zero_add, true_and, Bool.not_true, Bool.true_and, Bool.cond_self, beq_self_eq_true, Nat.le_refl, Try.vt33, dec_t, ho]
    refine vc_pure hvg rfl ?_
    by_cases hg : g.okB = true
    · rw [if_neg (by rw [hg]; decide)]
      simp (config := { maxSteps := 2000000 }) (implicitDefEqProofs := false) (disch := first | omega | assumption | (simp only [List.length_cons, List.length_nil, Nat.zero_add, Nat.reduceAdd]; done) | (simp only [IntKind.wrap_i64]; omega) | (simp only [List.length_replicate, List.length_set, List.length_append, List.length_cons, List.length_nil, List.length_take, List.length_drop, List.length_map] <;> omega) | fail) only [vop_assign, vcallee_assign, vop_load, vcallee_load, vop_unOp, vcallee_unOp, vop_fieldAddr, vcallee_fieldAddr, vcallee_value, vcal_fn, strip_pv, strip_ptr, strip_agg, strip_fn, optV_none, ev_tmp, ev_func, put_some, at_mk, fits_some, ↓look_cons, ↓vlook_t, ↓vlook_f, guard_none, ↓vrun_nil, ↓code_skip, ↓code_region, ↓code_seq, ↓onNormal_normal, ↓onBlock_normal, load_ptr, vld_one, vld_agg, blk_zero, blk_succ, faddr_ptr, vfap_some, un_not, evG_eq, ↓vrun_cons, ↓run1_some, ↓run2_none, ↓run2_some, ↓run3_some, ↓runK_eq, ↓vcg_none, ↓code_cond, ↓vtest_bool, ↓vbr_false, at_hp, List.map_nil, List.getElem?_cons_zero, List.length_cons, List.length_nil, List.map_cons, List.map_nil, List.nil_append, List.append_nil, List.take_succ_cons, List.take_nil, List.drop_zero, Option.map_some, ↓reduceIte, reduceCtorEq, Nat.reduceAdd, Nat.reduceLT, Nat.reduceBEq, Int.reduceLT, Int.reduceAdd, Int.reduceBEq, Nat.zero_add, Nat.add_zero, true_and, Bool.not_true, Bool.true_and, Bool.cond_self, beq_self_eq_true, Nat.le_refl, Try.vt3, Try.vt26, Try.vfield33x0, dec_t, hg]
      refine vc_pure hw rfl ?_
      cases hx : t.waits g.tx with
      | some w =>
        rw [Lk.waits] at hx
        rw [hx]
        dsimp only
        have hq := allEq_g w g
        by_cases he : w = g
        · rw [if_pos he]
          rw [decide_eq_true he] at hq
          simp (config := { maxSteps := 2000000 }) (implicitDefEqProofs := false) (disch := first | omega | assumption | (simp only [List.length_cons, List.length_nil, Nat.zero_add, Nat.reduceAdd]; done) | (simp only [IntKind.wrap_i64]; omega) | (simp only [List.length_replicate, List.length_set, List.length_append, List.length_cons, List.length_nil, List.length_take, List.length_drop, List.length_map] <;> omega) | fail) only [vop_move, vcallee_move, vop_assign, vcallee_assign, vop_pick, vcallee_pick, vop_alloc, vcallee_alloc, vop_load, vcallee_load, vop_store, vcallee_store, vop_binOp, vcallee_binOp, vop_extract, vcallee_extract, bin2_tmp, vpick_bool, strip_pv, strip_ptr, strip_agg, strip_tup, strip_opt, vstr_true, optV_none, optV_some, pickV_bool, ev_tmp, ev_const, ofConst_int, ofConst_bool, put_some, put_none, at_mk, fits_some, fits_none, ↓look_cons, ↓vlook_t, ↓vlook_f, guard_none, guard_some, vgof_bool, ↓vrun_nil, ↓code_region, ↓code_seq, ↓code_block, ↓code_ret, ↓onNormal_normal, ↓onNormal_ret, ↓onBlock_ret, frz_tup, frzT_agg, frzT_pv, frz1_pv, allSome_nil, allSome_cons, frzHeap_zero, res_two, vres_tmp, vres_cell, load_ptr, vld_agg, store_ptr, vst_agg, blk_zero, blk_succ, set_zero, set_succ, alloc_eq, val1_some, allOne_nil, allOne_cons, one_pv, ext_tup, evG_eq, ↓vrun_cons, ↓run1_some, ↓run2_none, ↓run3_some, ↓runK_eq, ↓code_cond, ↓vtest_bool, ↓vbr_true, ↓vbr_false, ↓vpost_ret, vfin_some, vfin2_some, at_hp, bin_agg, vba_neq, List.map_nil, V.splice, List.getElem?_cons_zero, List.getElem?_cons_succ, List.length_cons, List.length_nil, List.map_cons, List.map_nil, List.cons_append, List.nil_append, List.append_nil, List.take_succ_cons, List.take_zero, List.take_nil, List.drop_succ_cons, List.drop_zero, List.drop_nil, Option.map_some, Option.bind_some, ↓reduceIte, Nat.reduceAdd, Nat.reduceLT, Nat.reduceBEq, Int.reduceLT, Int.reduceAdd, Int.reduceBEq, Nat.zero_add, true_and, and_self, or_true, Bool.not_true, Bool.or_true, Bool.true_and, Bool.and_self, cond_true, Bool.cond_self, beq_self_eq_true, Nat.le_refl, RetW, DV.wk, DV.wk.go, PV.wk, Try.vt26, Try.vt33, Try.vzero33, Try.leaves33, Try.eqg33, dec_t, DV.nums, DV.nums.go, waitD, Gr.d, hq]
          rfl
        · rw [if_neg he]
          rw [decide_eq_false he] at hq
          simp (config := { maxSteps := 2000000 }) (implicitDefEqProofs := false) (disch := first | omega | assumption | (simp only [List.length_cons, List.length_nil, Nat.zero_add, Nat.reduceAdd]; done) | (simp only [IntKind.wrap_i64]; omega) | (simp only [List.length_replicate, List.length_set, List.length_append, List.length_cons, List.length_nil, List.length_take, List.length_drop, List.length_map] <;> omega) | fail) only [vop_move, vcallee_move, vop_assign, vcallee_assign, vop_pick, vcallee_pick, vop_alloc, vcallee_alloc, vop_build, vcallee_build, vop_load, vcallee_load, vop_store, vcallee_store, vop_binOp, vcallee_binOp, vop_extract, vcallee_extract, bin2_tmp, vpick_bool, strip_pv, strip_ptr, strip_agg, strip_tup, strip_opt, vstr_true, optV_none, optV_some, pickV_bool, ev_tmp, ev_const, ofConst_int, ofConst_bool, put_some, put_none, at_mk, fits_some, fits_none, ↓look_cons, ↓vlook_t, ↓vlook_f, guard_none, guard_some, vgof_bool, ↓vrun_nil, ↓code_region, ↓code_seq, ↓code_block, ↓code_ret, ↓onNormal_normal, ↓onNormal_ret, ↓onBlock_ret, frz_tup, frzT_agg, frzT_pv, frz1_pv, allSome_nil, allSome_cons, frzHeap_zero, res_two, vres_tmp, vres_cell, load_ptr, vld_agg, store_ptr, vst_agg, blk_zero, blk_succ, set_zero, set_succ, alloc_eq, val1_some, allOne_nil, allOne_cons, one_pv, ext_tup, parts_nil, evG_eq, ↓vrun_cons, ↓run1_some, ↓run2_none, ↓run3_some, ↓runK_eq, ↓code_cond, ↓vtest_bool, ↓vbr_true, ↓vpost_ret, vfin_some, vfin2_some, at_hp, bin_agg, vba_neq, List.map_nil, vbuild, vfill, V.splice, List.getElem?_cons_zero, List.getElem?_cons_succ, List.length_cons, List.length_nil, List.map_cons, List.map_nil, List.cons_append, List.nil_append, List.append_nil, List.take_succ_cons, List.take_zero, List.take_nil, List.drop_succ_cons, List.drop_zero, List.drop_nil, Option.map_some, Option.bind_some, ↓reduceIte, Nat.reduceAdd, Nat.reduceLT, Nat.reduceBEq, Int.reduceLT, Int.reduceAdd, Int.reduceBEq, Nat.zero_add, true_and, and_self, or_true, Bool.not_true, Bool.not_false, Bool.or_true, Bool.true_and, Bool.and_self, cond_true, Bool.cond_self, beq_self_eq_true, Nat.le_refl, RetW, DV.wk, DV.wk.go, PV.wk, Try.vt26, Try.vplaces26, Try.vzero26, Try.vt33, Try.vzero33, Try.leaves33, Try.eqg33, dec_t, DV.nums, DV.nums.go, waitD, Gr.d, hq]
          rfl
      | none =>
        have hx' := hx
        rw [Lk.waits] at hx'
        rw [hx']
        dsimp only
        have hq := allEq_g ⟨0, 0, 0, 0⟩ g
        simp (config := { maxSteps := 2000000 }) (implicitDefEqProofs := false) (disch := first | omega | assumption | (simp only [List.length_cons, List.length_nil, Nat.zero_add, Nat.reduceAdd]; done) | (simp only [IntKind.wrap_i64]; omega) | (simp only [List.length_replicate, List.length_set, List.length_append, List.length_cons, List.length_nil, List.length_take, List.length_drop, List.length_map] <;> omega) | fail) only [vop_move, vcallee_move, vop_assign, vcallee_assign, vop_pick, vcallee_pick, vop_alloc, vcallee_alloc, vop_load, vcallee_load, vop_store, vcallee_store, vop_binOp, vcallee_binOp, vop_extract, vcallee_extract, bin2_tmp, vpick_bool, strip_pv, strip_ptr, strip_agg, strip_tup, strip_opt, vstr_true, vstr_false, optV_none, optV_some, pickV_bool, ev_tmp, ev_const, ofConst_bool, put_some, put_none, at_mk, fits_some, fits_none, ↓look_cons, ↓vlook_t, ↓vlook_f, guard_none, guard_some, vgof_bool, ↓vrun_nil, ↓code_region, ↓code_draw, ↓code_seq, ↓code_block, ↓onNormal_normal, load_ptr, vld_agg, store_ptr, vst_agg, blk_zero, blk_succ, set_zero, set_succ, alloc_eq, val1_some, allOne_nil, allOne_cons, one_pv, ext_tup, evG_eq, ↓vrun_cons, ↓run1_some, ↓run2_none, ↓run3_some, ↓runK_eq, ↓code_cond, ↓vtest_bool, ↓vbr_false, at_hp, bin_agg, vba_neq, V.splice, List.getElem?_cons_zero, List.getElem?_cons_succ, List.length_cons, List.length_nil, List.cons_append, List.nil_append, List.append_nil, List.take_succ_cons, List.take_zero, List.take_nil, List.drop_succ_cons, List.drop_zero, List.drop_nil, Option.map_some, Option.bind_some, ↓reduceIte, Nat.reduceAdd, Nat.reduceLT, Nat.reduceBEq, Int.reduceLT, Int.reduceAdd, Int.reduceBEq, Nat.zero_add, true_and, and_self, or_false, or_self, Bool.not_true, Bool.not_false, Bool.or_false, Bool.true_and, Bool.or_self, Bool.and_self, b_beq_t, cond_true, cond_false, Bool.cond_self, beq_self_eq_true, Nat.le_refl, Try.vt33, Try.vzero33, Try.leaves33, Try.eqg33, dec_t, waitD, Gr.d, Gr0, hq]
        refine vdraw (by kernel_rfl) (by kernel_rfl) ?_
        simp (config := { maxSteps := 2000000 }) (implicitDefEqProofs := false) (disch := first | omega | assumption | (simp only [List.length_cons, List.length_nil, Nat.zero_add, Nat.reduceAdd]; done) | (simp only [IntKind.wrap_i64]; omega) | (simp only [List.length_replicate, List.length_set, List.length_append, List.length_cons, List.length_nil, List.length_take, List.length_drop, List.length_map] <;> omega) | fail) only [vop_load, vcallee_load, okKind_load, vop_fieldAddr, vcallee_fieldAddr, okKind_fieldAddr, foot_fieldAddr, foot_load, vcallee_value, vcal_fn, ptrNo_ptr, strip_pv, strip_ptr, strip_agg, strip_fn, optV_none, ev_tmp, ev_func, put_some, at_mk, fits_some, ↓look_cons, ↓vlook_t, ↓vlook_f, guard_none, load_ptr, vld_one, vld_agg, blk_zero, blk_succ, faddr_ptr, vfap_some, okc_nil, okc_none, okc_other, okc_one, evG_eq, ↓vdr_cons, ↓dr1_some, ↓dr2_none, ↓dr2_some, ↓dr3_some, at_hp, List.map_nil, List.getElem?_cons_zero, List.length_cons, List.length_nil, List.map_cons, List.map_nil, List.cons_append, List.nil_append, List.append_nil, List.take_succ_cons, List.take_zero, List.take_nil, List.drop_succ_cons, List.drop_zero, List.any_nil, List.any_cons, Option.map_some, ↓reduceIte, reduceCtorEq, Nat.reduceAdd, Nat.reduceLT, Nat.reduceLeDiff, Nat.reduceBEq, Int.reduceLT, Int.reduceAdd, Int.reduceBEq, Nat.zero_add, Nat.add_zero, true_and, and_true, and_self, and_false, or_false, or_self, Bool.not_false, Bool.or_false, Bool.and_true, Bool.true_and, Bool.and_false, Bool.or_self, Bool.and_self, Bool.cond_self, beq_self_eq_true, Nat.le_refl, Try.vt3, Try.vt26, Try.vt28, Try.vfield33x0, Try.vfield33x1, dec_t]
        refine vdc_call (fun _ => hm) rfl rfl ?_
        by_cases h1 : g.md ≤ modeS t.held g.tx g.pg g.sl
        · rw [if_pos h1]
          simp (config := { maxSteps := 2000000 }) (implicitDefEqProofs := false) (disch := first | omega | assumption | (simp only [List.length_cons, List.length_nil, Nat.zero_add, Nat.reduceAdd]; done) | (simp only [IntKind.wrap_i64]; omega) | (simp only [List.length_replicate, List.length_set, List.length_append, List.length_cons, List.length_nil, List.length_take, List.length_drop, List.length_map] <;> omega) | fail) only [vop_assign, vcallee_assign, okKind_assign, foot_assign, vop_load, vcallee_load, okKind_load, vop_store, vcallee_store, vop_binOp, vcallee_binOp, okKind_binOp, foot_binOp, vop_fieldAddr, vcallee_fieldAddr, okKind_fieldAddr, foot_fieldAddr, foot_load, ptrNo_ptr, bin2_tmp, strip_pv, strip_ptr, strip_agg, optV_none, ev_tmp, ev_const, ofConst_int, ofConst_bool, put_some, put_none, at_mk, fits_some, fits_none, ↓look_cons, ↓vlook_t, ↓vlook_f, guard_none, ↓vrun_nil, ↓vdr_nil, ↓code_region, ↓code_seq, ↓code_ret, ↓onNormal_normal, ↓onNormal_ret, ↓onBlock_ret, frz_tup, frzT_agg, frzT_pv, frz1_pv, allSome_nil, allSome_cons, frzHeap_zero, res_two, vres_tmp, vres_cell, load_ptr, vld_one, vld_agg, store_ptr, vst_agg, blk_zero, blk_succ, set_zero, set_succ, allOne_nil, allOne_cons, one_pv, faddr_ptr, vfap_some, bin_int, int_geq, okc_nil, okc_none, okc_other, okc_one, evG_eq, ↓vrun_cons, ↓run1_some, ↓run2_none, ↓run3_some, ↓vdr_cons, ↓dr1_some, ↓dr2_none, ↓dr3_some, ↓drK_eq, ↓code_cond, ↓vtest_bool, ↓vbr_true, ↓vpost_ret, vfin_some, vfin2_some, at_hp, List.map_nil, V.splice, List.getElem?_cons_zero, List.getElem?_cons_succ, List.length_cons, List.length_nil, List.map_cons, List.map_nil, List.cons_append, List.nil_append, List.append_nil, List.take_succ_cons, List.take_zero, List.take_nil, List.drop_succ_cons, List.drop_zero, List.drop_nil, List.any_nil, List.any_cons, Option.map_some, ↓reduceIte, reduceCtorEq, Nat.reduceAdd, Nat.reduceLT, Nat.reduceBEq, Int.reduceLT, Int.reduceAdd, Int.reduceBEq, Nat.zero_add, true_and, and_true, and_self, and_false, or_false, or_self, Bool.not_false, Bool.or_false, Bool.and_true, Bool.true_and, Bool.and_false, Bool.or_self, Bool.and_self, cond_true, Bool.cond_self, beq_self_eq_true, Nat.le_refl, RetW, DV.wk, DV.wk.go, PV.wk, Try.vt3, Try.vt26, Try.vfield33x2, dec_t, DV.nums, DV.nums.go, h1]
          rfl
        · rw [if_neg h1]
          simp (config := { maxSteps := 2000000 }) (implicitDefEqProofs := false) (disch := first | omega | assumption | (simp only [List.length_cons, List.length_nil, Nat.zero_add, Nat.reduceAdd]; done) | (simp only [IntKind.wrap_i64]; omega) | (simp only [List.length_replicate, List.length_set, List.length_append, List.length_cons, List.length_nil, List.length_take, List.length_drop, List.length_map] <;> omega) | fail) only [vop_assign, vcallee_assign, okKind_assign, foot_assign, vop_load, vcallee_load, okKind_load, vop_binOp, vcallee_binOp, okKind_binOp, foot_binOp, vop_fieldAddr, vcallee_fieldAddr, okKind_fieldAddr, foot_fieldAddr, foot_load, vop_builtin, vcallee_builtin, ptrNo_ptr, bin2_tmp, bin2_int, strip_pv, strip_ptr, optV_none, ev_tmp, ev_const, ofConst_int, put_some, at_mk, fits_some, ↓look_cons, ↓vlook_t, ↓vlook_f, guard_none, ↓vrun_nil, ↓vdr_nil, ↓code_region, ↓code_seq, ↓onNormal_normal, load_ptr, vld_one, blk_zero, blk_succ, faddr_ptr, vfap_some, bin_int, int_add, int_eql, int_geq, len_sl, vlk_sl, bi_len, okc_nil, okc_none, okc_other, okc_one, evG_eq, ↓vrun_cons, ↓run1_some, ↓run2_none, ↓run3_some, ↓vdr_cons, ↓dr1_some, ↓dr2_none, ↓dr3_some, ↓drK_eq, ↓code_cond, ↓vtest_bool, ↓vbr_false, at_hp, List.map_nil, List.getElem?_cons_zero, List.getElem?_cons_succ, List.map_cons, List.map_nil, List.cons_append, List.nil_append, List.any_nil, List.any_cons, Option.map_some, ↓reduceIte, reduceCtorEq, Nat.reduceAdd, Nat.reduceLT, Nat.reduceBEq, Int.reduceLT, Int.reduceAdd, Int.reduceBEq, Nat.zero_add, Nat.add_zero, decide_false, true_and, and_true, and_self, and_false, or_false, or_self, Bool.not_false, Bool.or_false, Bool.and_true, Bool.true_and, Bool.and_false, Bool.or_self, Bool.and_self, Bool.cond_self, beq_self_eq_true, fz_len, Try.vt3, Try.vt24, Try.vkind24, Try.vfield26x0, Try.vfield26x1, Try.vfield33x2, wrap_i64_in, dec_t, h1]
          by_cases h2 : t.held.length + t.wait.length = 1024
          · rw [if_pos h2]
            have h2' : (t.held.length : Int) + t.wait.length = 1024 := by omega
            simp (config := { maxSteps := 2000000 }) (implicitDefEqProofs := false) (disch := first | omega | assumption | (simp only [List.length_cons, List.length_nil, Nat.zero_add, Nat.reduceAdd]; done) | (simp only [IntKind.wrap_i64]; omega) | (simp only [List.length_replicate, List.length_set, List.length_append, List.length_cons, List.length_nil, List.length_take, List.length_drop, List.length_map] <;> omega) | fail) only [vop_assign, vcallee_assign, vop_build, vcallee_build, vop_store, vcallee_store, strip_pv, strip_ptr, strip_agg, optV_none, ev_tmp, ev_const, ofConst_int, ofConst_bool, put_some, put_none, at_mk, fits_some, fits_none, ↓look_cons, ↓vlook_t, ↓vlook_f, guard_none, ↓vrun_nil, ↓code_region, ↓code_seq, ↓code_ret, ↓onNormal_normal, ↓onNormal_ret, ↓onBlock_ret, frz_tup, frzT_agg, frzT_pv, frz1_pv, allSome_nil, allSome_cons, frzHeap_zero, res_two, vres_tmp, vres_cell, load_ptr, vld_agg, store_ptr, vst_agg, blk_zero, blk_succ, set_zero, set_succ, allOne_nil, allOne_cons, one_pv, parts_nil, evG_eq, ↓vrun_cons, ↓run1_some, ↓run2_none, ↓run3_some, ↓vbr_true, ↓vpost_ret, vfin_some, vfin2_some, at_hp, List.map_nil, vbuild, vfill, V.splice, List.length_cons, List.length_nil, List.map_cons, List.map_nil, List.nil_append, List.append_nil, List.take_succ_cons, List.take_zero, List.take_nil, List.drop_succ_cons, List.drop_zero, List.drop_nil, Option.map_some, ↓reduceIte, Nat.reduceAdd, Nat.reduceLT, Nat.reduceBEq, Int.reduceLT, Int.reduceAdd, Int.reduceBEq, Nat.zero_add, true_and, and_self, Bool.true_and, Bool.and_self, Bool.cond_self, beq_self_eq_true, Nat.le_refl, RetW, DV.wk, DV.wk.go, PV.wk, Try.vt26, Try.vplaces26, Try.vzero26, dec_t, DV.nums, DV.nums.go, h2']
            rfl
          · rw [if_neg h2]
            have h2' : ¬ (t.held.length : Int) + t.wait.length = 1024 := by omega
            simp (config := { maxSteps := 2000000 }) (implicitDefEqProofs := false) (disch := first | omega | assumption | (simp only [List.length_cons, List.length_nil, Nat.zero_add, Nat.reduceAdd]; done) | (simp only [IntKind.wrap_i64]; omega) | (simp only [List.length_replicate, List.length_set, List.length_append, List.length_cons, List.length_nil, List.length_take, List.length_drop, List.length_map] <;> omega) | fail) only [vop_load, vcallee_load, vcallee_value, vcal_fn, strip_ptr, strip_agg, strip_fn, optV_none, ev_tmp, ev_func, put_some, at_mk, fits_some, ↓look_cons, ↓vlook_t, ↓vlook_f, guard_none, ↓code_skip, ↓code_region, ↓code_seq, ↓onNormal_normal, ↓onBlock_normal, load_ptr, vld_agg, blk_zero, evG_eq, ↓vrun_cons, ↓run1_some, ↓run2_none, ↓run2_some, ↓run3_some, ↓vcg_none, ↓vbr_false, at_hp, List.map_nil, List.length_cons, List.length_nil, List.map_cons, List.map_nil, List.nil_append, List.append_nil, List.take_succ_cons, List.take_nil, List.drop_zero, Option.map_some, ↓reduceIte, Nat.reduceAdd, Nat.reduceLT, Nat.reduceBEq, Int.reduceLT, Int.reduceAdd, Int.reduceBEq, Nat.zero_add, true_and, Bool.true_and, Bool.cond_self, beq_self_eq_true, Nat.le_refl, Try.vt26, dec_t, int_beq_f]
            refine vc_own t hs ?_
            simp (config := { maxSteps := 2000000 }) (implicitDefEqProofs := false) (disch := first | omega | assumption | (simp only [List.length_cons, List.length_nil, Nat.zero_add, Nat.reduceAdd]; done) | (simp only [IntKind.wrap_i64]; omega) | (simp only [List.length_replicate, List.length_set, List.length_append, List.length_cons, List.length_nil, List.length_take, List.length_drop, List.length_map] <;> omega) | fail) only [vop_store, vcallee_store, strip_ptr, strip_agg, optV_none, ev_tmp, put_some, put_none, at_mk, fits_none, ↓look_cons, ↓vlook_t, ↓vlook_f, guard_none, ↓vrun_nil, ↓code_draw, ↓code_seq, ↓onNormal_normal, store_ptr, vst_agg, blk_zero, set_zero, allOne_nil, allOne_cons, one_own, evG_eq, ↓vrun_cons, ↓run1_some, ↓run2_none, ↓run3_some, ↓runK_eq, at_hp, V.splice, List.length_cons, List.length_nil, List.cons_append, List.nil_append, List.append_nil, List.take_zero, List.drop_succ_cons, List.drop_nil, Option.map_some, ↓reduceIte, Nat.reduceAdd, Nat.reduceBEq, Int.reduceAdd, Int.reduceBEq, Nat.zero_add, true_and, and_self, Bool.true_and, Bool.and_self, cond_true, beq_self_eq_true, Nat.le_refl, Try.vt26]
            have hp := place_v t hs hgood.srt g
            have hpl := placeS_le t g
            have hadd : (t.add g).Good := hgood.add hg hx (by omega)
            have hal := t.add_len g
            unfold Lk.d Gr.d at hp
            refine vspine [0, 1, 2, 3, 5] [⟨[6], [], 4, [0, 1, 5], []⟩, ⟨[6], [6], 7, [0, 2, 3, 5], [8]⟩, ⟨[], [], 9, [], []⟩] (by kernel_rfl) (by kernel_rfl) ?_
            simp (config := { maxSteps := 2000000 }) (implicitDefEqProofs := false) (disch := first | omega | assumption | (simp only [List.length_cons, List.length_nil, Nat.zero_add, Nat.reduceAdd]; done) | (simp only [IntKind.wrap_i64]; omega) | (simp only [List.length_replicate, List.length_set, List.length_append, List.length_cons, List.length_nil, List.length_take, List.length_drop, List.length_map] <;> omega) | fail) only [vop_buildSlice, vop_load, vcallee_load, vop_fieldAddr, vcallee_fieldAddr, vcallee_value, vcal_fn, strip_ptr, strip_agg, strip_fn, optV_none, ev_tmp, ev_func, put_some, at_mk, fits_some, ↓look_cons, ↓vlook_t, ↓vlook_f, guard_none, ↓vrun_nil, load_ptr, vld_one, vld_agg, blk_zero, blk_succ, allOne_nil, allOne_cons, one_pv, faddr_ptr, vfap_some, parts_nil, parts_cons, evG_eq, ↓vrun_cons, ↓run1_some, ↓run2_none, ↓run2_some, ↓run3_some, ↓vcg_none, at_hp, List.map_nil, dcells, vfill, vbuildSlice, V.mk, V.splice, List.toList_toArray, List.getElem?_cons_zero, List.getElem?_cons_succ, List.length_cons, List.length_nil, List.map_cons, List.map_nil, List.nil_append, List.append_nil, List.take_succ_cons, List.take_zero, List.take_nil, List.drop_succ_cons, List.drop_zero, List.drop_nil, Option.map_some, ↓reduceIte, reduceCtorEq, Nat.reduceAdd, Nat.reduceLT, Nat.reduceLeDiff, Nat.reduceBEq, Int.reduceLT, Int.reduceAdd, Int.reduceBEq, Nat.zero_add, Nat.zero_mul, Nat.one_mul, true_and, and_self, Bool.true_and, Bool.and_self, Bool.cond_self, beq_self_eq_true, Nat.le_refl, ↓vsp_cons, vspC_true, vspR_eq, pick_nil, pick_cons, pickO_some, creas_nil, creas_cons, creaOk_eq, creaM_own, creaOk2_some, Op.operands, DV.wk.go, Try.vt24, Try.velem24, Try.vt26, Try.vfield26x1, Try.vt33, Try.vzero33, dec_t, DV.nums, DV.nums.go]
            refine vc_lendA hp (by simp (config := { maxSteps := 2000000 }) (implicitDefEqProofs := false) (disch := first | omega | assumption | (simp only [List.length_cons, List.length_nil, Nat.zero_add, Nat.reduceAdd]; done) | (simp only [IntKind.wrap_i64]; omega) | (simp only [List.length_replicate, List.length_set, List.length_append, List.length_cons, List.length_nil, List.length_take, List.length_drop, List.length_map] <;> omega) | fail) only [frz1_own, allSome_nil, allSome_cons, blk_zero, blk_succ, List.map_nil, List.map_cons, List.map_nil, Option.map_some, ↓reduceIte, Nat.reduceLT, Int.reduceLT, frzP_own, frzA_agg, frzB_ownE, frzB_pv, frzC_G rfl]) rfl ?_
            simp (config := { maxSteps := 2000000 }) (implicitDefEqProofs := false) (disch := first | omega | assumption | (simp only [List.length_cons, List.length_nil, Nat.zero_add, Nat.reduceAdd]; done) | (simp only [IntKind.wrap_i64]; omega) | (simp only [List.length_replicate, List.length_set, List.length_append, List.length_cons, List.length_nil, List.length_take, List.length_drop, List.length_map] <;> omega) | fail) only [vop_buildSlice, vcallee_buildSlice, foot_fieldAddr, foot_load, vcallee_value, vcal_fn, ptrNo_ptr, strip_pv, strip_ptr, strip_own, strip_agg, strip_fn, optV_none, ev_tmp, ev_func, put_some, at_mk, fits_some, ↓look_cons, ↓vlook_t, ↓vlook_f, guard_none, ↓vrun_nil, allOne_nil, allOne_cons, one_pv, parts_nil, parts_cons, evG_eq, ↓vrun_cons, ↓run1_some, ↓run2_none, ↓run2_some, ↓run3_some, ↓runK_eq, ↓vcg_none, at_hp, List.map_nil, dcells, vfill, vbuildSlice, V.mk, V.splice, List.toList_toArray, List.getElem?_cons_zero, List.getElem?_cons_succ, List.length_cons, List.length_nil, List.map_cons, List.map_nil, List.cons_append, List.nil_append, List.append_nil, List.take_zero, List.drop_succ_cons, List.drop_nil, Option.map_some, ↓reduceIte, Nat.reduceAdd, Nat.reduceLT, Nat.reduceLeDiff, Nat.reduceBEq, Int.reduceLT, Int.reduceAdd, Int.reduceBEq, Nat.zero_add, Nat.zero_mul, Nat.one_mul, true_and, and_self, Bool.true_and, Bool.and_self, cond_true, beq_self_eq_true, Nat.le_refl, ↓vsp_cons, ↓vspK_eq, vspC_true, vspR_eq, pick_nil, pick_cons, pickO_some, creas_nil, creas_cons, creaOk_eq, creaM_own, creaOk2_some, agree_nil, agree_cons, agree1_some, sameAt_nil, sameAt_cons, Op.operands, DV.wk.go, Try.velem24, Try.vzero33, dec_t, DV.nums, DV.nums.go]
            refine vc_newP [7, 8] [7, 8] (insertG_v t.wait g _ hpl (by omega)) rfl ⟨⟨by simp, cells_nums _ _ _⟩, ⟨by simp, rfl⟩, trivial⟩ (by decide) rfl rfl rfl (cells_nums _ _ _) ?_
            simp (config := { maxSteps := 2000000 }) (implicitDefEqProofs := false) (disch := first | omega | assumption | (simp only [List.length_cons, List.length_nil, Nat.zero_add, Nat.reduceAdd]; done) | (simp only [IntKind.wrap_i64]; omega) | (simp only [List.length_replicate, List.length_set, List.length_append, List.length_cons, List.length_nil, List.length_take, List.length_drop, List.length_map] <;> omega) | fail) only [vop_load, vcallee_load, vop_store, vcallee_store, vop_fieldAddr, vcallee_fieldAddr, foot_fieldAddr, foot_load, vcallee_value, vcal_fn, ptrNo_ptr, strip_ptr, strip_own, strip_agg, strip_fn, optV_none, ev_tmp, ev_func, put_some, put_none, at_mk, fits_some, fits_none, ↓look_cons, ↓vlook_t, ↓vlook_f, guard_none, ↓vrun_nil, ↓code_region, ↓code_seq, ↓onNormal_normal, load_ptr, vld_agg, store_ptr, vst_one, blk_zero, set_zero, one_own, faddr_ptr, vfap_some, evG_eq, ↓vrun_cons, ↓run1_some, ↓run2_none, ↓run2_some, ↓run3_some, ↓runK_eq, ↓vcg_none, at_hp, List.map_nil, V.kill, kills, List.getElem?_cons_zero, List.getElem?_cons_succ, List.length_cons, List.length_nil, List.map_cons, List.map_nil, List.cons_append, List.nil_append, List.append_nil, List.take_succ_cons, List.take_nil, List.drop_zero, List.set_cons_zero, List.set_cons_succ, Option.map_some, ↓reduceIte, reduceCtorEq, Nat.reduceAdd, Nat.reduceLT, Nat.reduceBEq, Int.reduceLT, Int.reduceAdd, Int.reduceBEq, Nat.zero_add, true_and, and_self, Bool.true_and, Bool.and_self, cond_true, Bool.cond_self, beq_self_eq_true, Nat.le_refl, ↓vsp_nil, ↓vsp_cons, ↓vspK_eq, vspC_true, vspR_eq, pick_nil, pick_cons, pickO_some, creas_nil, agree_nil, agree_cons, agree1_some, sameAt_nil, sameAt_cons, Try.vt24, Try.vt26, Try.vfield26x1, dec_t]
            refine vc_settle (t.add g) hadd (by rw [hal]; show t.held.length + _ ≤ _; omega) rfl hal.symm rfl rfl (by decide) ?_
            have hsl := hadd.settle
            have hss := (t.add g).settle_sum
            rw [hal] at hss
            have hss2 : (t.add g).held.length = t.held.length := rfl
            have hm2 := mode_v (t.add g).settle ⟨by omega, by omega⟩ hsl.srt g.tx g.pg g.sl
            unfold Lk.d at hm2
            simp (config := { maxSteps := 2000000 }) (implicitDefEqProofs := false) (disch := first | omega | assumption | (simp only [List.length_cons, List.length_nil, Nat.zero_add, Nat.reduceAdd]; done) | (simp only [IntKind.wrap_i64]; omega) | (simp only [List.length_replicate, List.length_set, List.length_append, List.length_cons, List.length_nil, List.length_take, List.length_drop, List.length_map] <;> omega) | fail) only [vop_store, vcallee_store, strip_ptr, strip_agg, optV_none, ev_tmp, put_some, put_none, at_mk, fits_none, ↓look_cons, ↓vlook_t, ↓vlook_f, guard_none, ↓vrun_nil, ↓code_draw, ↓code_seq, ↓onNormal_normal, store_ptr, vst_agg, blk_zero, set_zero, allOne_nil, allOne_cons, one_pv, evG_eq, ↓vrun_cons, ↓run1_some, ↓run2_none, ↓run3_some, ↓runK_eq, at_hp, V.kill, kills, V.splice, List.getElem?_cons_zero, List.getElem?_cons_succ, List.length_cons, List.length_nil, List.nil_append, List.append_nil, List.take_zero, List.drop_succ_cons, List.drop_nil, List.set_cons_zero, List.set_cons_succ, Option.map_some, ↓reduceIte, Nat.reduceAdd, Nat.reduceBEq, Int.reduceAdd, Int.reduceBEq, Nat.zero_add, true_and, and_self, Bool.true_and, Bool.and_self, cond_true, beq_self_eq_true, Nat.le_refl, Try.vt26, Lk.d]
            refine vdraw (by kernel_rfl) (by kernel_rfl) ?_
            simp (config := { maxSteps := 2000000 }) (implicitDefEqProofs := false) (disch := first | omega | assumption | (simp only [List.length_cons, List.length_nil, Nat.zero_add, Nat.reduceAdd]; done) | (simp only [IntKind.wrap_i64]; omega) | (simp only [List.length_replicate, List.length_set, List.length_append, List.length_cons, List.length_nil, List.length_take, List.length_drop, List.length_map] <;> omega) | fail) only [vop_load, vcallee_load, okKind_load, vop_fieldAddr, vcallee_fieldAddr, okKind_fieldAddr, foot_fieldAddr, foot_load, vcallee_value, vcal_fn, ptrNo_ptr, strip_pv, strip_ptr, strip_agg, strip_fn, optV_none, ev_tmp, ev_func, put_some, at_mk, fits_some, ↓look_cons, ↓vlook_t, ↓vlook_f, guard_none, load_ptr, vld_one, vld_agg, blk_zero, blk_succ, faddr_ptr, vfap_some, okc_nil, okc_none, okc_other, okc_one, evG_eq, ↓vdr_cons, ↓dr1_some, ↓dr2_none, ↓dr2_some, ↓dr3_some, at_hp, List.map_nil, List.getElem?_cons_zero, List.length_cons, List.length_nil, List.map_cons, List.map_nil, List.cons_append, List.nil_append, List.append_nil, List.take_succ_cons, List.take_zero, List.take_nil, List.drop_succ_cons, List.drop_zero, List.any_nil, List.any_cons, Option.map_some, ↓reduceIte, reduceCtorEq, Nat.reduceAdd, Nat.reduceLT, Nat.reduceLeDiff, Nat.reduceBEq, Int.reduceLT, Int.reduceAdd, Int.reduceBEq, Nat.zero_add, Nat.add_zero, true_and, and_true, and_self, and_false, or_false, or_self, Bool.not_false, Bool.or_false, Bool.and_true, Bool.true_and, Bool.and_false, Bool.or_self, Bool.and_self, Bool.cond_self, beq_self_eq_true, Nat.le_refl, Try.vt3, Try.vt26, Try.vt28, Try.vfield33x0, Try.vfield33x1, dec_t]
            refine vdc_call (fun _ => hm2) rfl rfl ?_
            by_cases h3 : g.md ≤ modeS (t.add g).settle.held g.tx g.pg g.sl
            · rw [decide_eq_true h3]
              simp (config := { maxSteps := 2000000 }) (implicitDefEqProofs := false) (disch := first | omega | assumption | (simp only [List.length_cons, List.length_nil, Nat.zero_add, Nat.reduceAdd]; done) | (simp only [IntKind.wrap_i64]; omega) | (simp only [List.length_replicate, List.length_set, List.length_append, List.length_cons, List.length_nil, List.length_take, List.length_drop, List.length_map] <;> omega) | fail) only [vop_assign, vcallee_assign, okKind_assign, foot_assign, vop_load, vcallee_load, okKind_load, vop_store, vcallee_store, okKind_store, vop_binOp, vcallee_binOp, okKind_binOp, foot_binOp, vop_fieldAddr, vcallee_fieldAddr, okKind_fieldAddr, foot_fieldAddr, foot_load, foot_store, ptrNo_ptr, bin2_tmp, strip_pv, strip_ptr, strip_agg, optV_none, ev_tmp, ev_const, ofConst_int, put_some, put_none, at_mk, fits_some, fits_none, ↓look_cons, ↓vlook_t, ↓vlook_f, guard_none, ↓vdr_nil, ↓code_ret, ↓onNormal_normal, frz_tup, frzT_agg, frzT_pv, frz1_pv, allSome_nil, allSome_cons, frzHeap_zero, res_two, vres_tmp, vres_cell, load_ptr, vld_one, vld_agg, store_ptr, vst_agg, blk_zero, blk_succ, set_zero, set_succ, allOne_nil, allOne_cons, one_pv, faddr_ptr, vfap_some, bin_int, int_geq, okc_nil, okc_none, okc_other, okc_one, evG_eq, ↓vdr_cons, ↓dr1_some, ↓dr2_none, ↓dr3_some, ↓drK_eq, ↓vpost_ret, vfin_some, vfin2_some, at_hp, List.map_nil, V.splice, List.getElem?_cons_zero, List.getElem?_cons_succ, List.length_cons, List.length_nil, List.map_cons, List.map_nil, List.cons_append, List.nil_append, List.append_nil, List.take_succ_cons, List.take_zero, List.take_nil, List.drop_succ_cons, List.drop_zero, List.drop_nil, List.any_nil, List.any_cons, Option.map_some, ↓reduceIte, reduceCtorEq, Nat.reduceAdd, Nat.reduceLT, Nat.reduceBEq, Int.reduceLT, Int.reduceAdd, Int.reduceBEq, Nat.zero_add, true_and, and_true, and_self, and_false, true_or, or_true, or_false, false_or, or_self, Bool.not_false, Bool.or_true, Bool.true_or, Bool.or_false, Bool.false_or, Bool.and_true, Bool.true_and, Bool.and_false, Bool.or_self, Bool.and_self, cond_true, Bool.cond_self, beq_self_eq_true, Nat.le_refl, RetW, DV.wk, DV.wk.go, PV.wk, Try.vt3, Try.vt26, Try.vfield33x2, dec_t, DV.nums, DV.nums.go, h3]
              rfl
            · rw [decide_eq_false h3]
              simp (config := { maxSteps := 2000000 }) (implicitDefEqProofs := false) (disch := first | omega | assumption | (simp only [List.length_cons, List.length_nil, Nat.zero_add, Nat.reduceAdd]; done) | (simp only [IntKind.wrap_i64]; omega) | (simp only [List.length_replicate, List.length_set, List.length_append, List.length_cons, List.length_nil, List.length_take, List.length_drop, List.length_map] <;> omega) | fail) only [vop_assign, vcallee_assign, okKind_assign, foot_assign, vop_load, vcallee_load, okKind_load, vop_store, vcallee_store, okKind_store, vop_binOp, vcallee_binOp, okKind_binOp, foot_binOp, vop_fieldAddr, vcallee_fieldAddr, okKind_fieldAddr, foot_fieldAddr, foot_load, foot_store, ptrNo_ptr, bin2_tmp, strip_pv, strip_ptr, strip_agg, optV_none, ev_tmp, ev_const, ofConst_int, put_some, put_none, at_mk, fits_some, fits_none, ↓look_cons, ↓vlook_t, ↓vlook_f, guard_none, ↓vdr_nil, ↓code_ret, ↓onNormal_normal, frz_tup, frzT_agg, frzT_pv, frz1_pv, allSome_nil, allSome_cons, frzHeap_zero, res_two, vres_tmp, vres_cell, load_ptr, vld_one, vld_agg, store_ptr, vst_agg, blk_zero, blk_succ, set_zero, set_succ, allOne_nil, allOne_cons, one_pv, faddr_ptr, vfap_some, bin_int, int_geq, okc_nil, okc_none, okc_other, okc_one, evG_eq, ↓vdr_cons, ↓dr1_some, ↓dr2_none, ↓dr3_some, ↓drK_eq, ↓vpost_ret, vfin_some, vfin2_some, at_hp, List.map_nil, V.splice, List.getElem?_cons_zero, List.getElem?_cons_succ, List.length_cons, List.length_nil, List.map_cons, List.map_nil, List.cons_append, List.nil_append, List.append_nil, List.take_succ_cons, List.take_zero, List.take_nil, List.drop_succ_cons, List.drop_zero, List.drop_nil, List.any_nil, List.any_cons, Option.map_some, ↓reduceIte, reduceCtorEq, Nat.reduceAdd, Nat.reduceLT, Nat.reduceBEq, Int.reduceLT, Int.reduceAdd, Int.reduceBEq, Nat.zero_add, decide_false, true_and, and_true, and_self, and_false, true_or, or_true, or_false, false_or, or_self, Bool.not_false, Bool.or_true, Bool.true_or, Bool.or_false, Bool.false_or, Bool.and_true, Bool.true_and, Bool.and_false, Bool.or_self, Bool.and_self, cond_true, Bool.cond_self, beq_self_eq_true, Nat.le_refl, RetW, DV.wk, DV.wk.go, PV.wk, Try.vt3, Try.vt26, Try.vfield33x2, dec_t, DV.nums, DV.nums.go, h3]
              rfl
    · have hg' : g.okB = false := by simpa using hg
      rw [if_pos hg']
      simp (config := { maxSteps := 2000000 }) (implicitDefEqProofs := false) (disch := first | omega | assumption | (simp only [List.length_cons, List.length_nil, Nat.zero_add, Nat.reduceAdd]; done) | (simp only [IntKind.wrap_i64]; omega) | (simp only [List.length_replicate, List.length_set, List.length_append, List.length_cons, List.length_nil, List.length_take, List.length_drop, List.length_map] <;> omega) | fail) only [vop_assign, vcallee_assign, vop_build, vcallee_build, vop_store, vcallee_store, vop_unOp, vcallee_unOp, strip_pv, strip_ptr, strip_agg, optV_none, ev_tmp, ev_const, ofConst_int, ofConst_bool, put_some, put_none, at_mk, fits_some, fits_none, ↓look_cons, ↓vlook_t, ↓vlook_f, guard_none, ↓vrun_nil, ↓code_region, ↓code_seq, ↓code_ret, ↓onNormal_normal, ↓onNormal_ret, ↓onBlock_ret, frz_tup, frzT_agg, frzT_pv, frz1_pv, allSome_nil, allSome_cons, frzHeap_zero, res_two, vres_tmp, vres_cell, load_ptr, vld_agg, store_ptr, vst_agg, blk_zero, blk_succ, set_zero, set_succ, allOne_nil, allOne_cons, one_pv, un_not, parts_nil, evG_eq, ↓vrun_cons, ↓run1_some, ↓run2_none, ↓run3_some, ↓runK_eq, ↓code_cond, ↓vtest_bool, ↓vbr_true, ↓vpost_ret, vfin_some, vfin2_some, at_hp, List.map_nil, vbuild, vfill, V.splice, List.length_cons, List.length_nil, List.map_cons, List.map_nil, List.nil_append, List.append_nil, List.take_succ_cons, List.take_zero, List.take_nil, List.drop_succ_cons, List.drop_zero, List.drop_nil, Option.map_some, ↓reduceIte, Nat.reduceAdd, Nat.reduceLT, Nat.reduceBEq, Int.reduceLT, Int.reduceAdd, Int.reduceBEq, Nat.zero_add, true_and, and_self, Bool.not_false, Bool.true_and, Bool.and_self, Bool.cond_self, beq_self_eq_true, Nat.le_refl, RetW, DV.wk, DV.wk.go, PV.wk, Try.vt26, Try.vplaces26, Try.vzero26, dec_t, DV.nums, DV.nums.go, hg']
      rfl
  · have ho' : t.okB = false := by simpa using ho
    rw [reqS, if_pos ho']
    simp (config := { maxSteps := 2000000 }) (implicitDefEqProofs := false) (disch := first | omega | assumption | (simp only [List.length_cons, List.length_nil, Nat.zero_add, Nat.reduceAdd]; done) | (simp only [IntKind.wrap_i64]; omega) | (simp only [List.length_replicate, List.length_set, List.length_append, List.length_cons, List.length_nil, List.length_take, List.length_drop, List.length_map] <;> omega) | fail) only [vop_assign, vcallee_assign, vop_build, vcallee_build, vop_store, vcallee_store, vop_unOp, vcallee_unOp, strip_pv, strip_ptr, strip_agg, optV_none, ev_tmp, ev_const, ofConst_int, ofConst_bool, put_some, put_none, at_mk, fits_some, fits_none, ↓look_cons, ↓vlook_t, ↓vlook_f, guard_none, ↓vrun_nil, ↓code_region, ↓code_seq, ↓code_ret, ↓onNormal_normal, ↓onNormal_ret, ↓onBlock_ret, frz_tup, frzT_agg, frzT_pv, frz1_pv, allSome_nil, allSome_cons, frzHeap_zero, res_two, vres_tmp, vres_cell, load_ptr, vld_agg, store_ptr, vst_agg, blk_zero, blk_succ, set_zero, set_succ, allOne_nil, allOne_cons, one_pv, un_not, parts_nil, evG_eq, ↓vrun_cons, ↓run1_some, ↓run2_none, ↓run3_some, ↓runK_eq, ↓code_cond, ↓vtest_bool, ↓vbr_true, ↓vpost_ret, vfin_some, vfin2_some, at_hp, List.map_nil, vbuild, vfill, V.splice, List.length_cons, List.length_nil, List.map_cons, List.map_nil, List.nil_append, List.append_nil, List.take_succ_cons, List.take_zero, List.take_nil, List.drop_succ_cons, List.drop_zero, List.drop_nil, Option.map_some, ↓reduceIte, Nat.reduceAdd, Nat.reduceLT, Nat.reduceBEq, Int.reduceLT, Int.reduceAdd, Int.reduceBEq, Nat.zero_add, true_and, and_self, Bool.not_false, Bool.true_and, Bool.and_self, Bool.cond_self, beq_self_eq_true, Nat.le_refl, RetW, DV.wk, DV.wk.go, PV.wk, Try.vt26, Try.vplaces26, Try.vzero26, dec_t, DV.nums, DV.nums.go, ho']
    rfl
end Go.Proofs.Ytjiaadkncpajnaa

namespace Go.Proofs.Ytjiaadkncpajnaa
open Go.V Go
set_option maxRecDepth 100000
set_option linter.unusedSimpArgs false

theorem awake_v : VCalls Try.prog 8 [] [] (Ret (.bool true)) := by
  refine vcalls_drop (fn := Try.f8) Try.func8 rfl (by kernel_rfl) (by simp [Try.f8]) ?_
  have h1 := request_v ⟨[], []⟩ ⟨by simp, by simp⟩ ⟨1, 1, 0, 1⟩
  rw [(by kernel_rfl : reqS ⟨[], []⟩ ⟨1, 1, 0, 1⟩ = (⟨[⟨1, 1, 0, 1⟩], []⟩, true, 0))] at h1
  have h2 := request_v ⟨[⟨1, 1, 0, 1⟩], []⟩ ⟨by simp, by simp⟩ ⟨2, 1, 0, 1⟩
  rw [(by kernel_rfl : reqS ⟨[⟨1, 1, 0, 1⟩], []⟩ ⟨2, 1, 0, 1⟩ = (⟨[⟨1, 1, 0, 1⟩, ⟨2, 1, 0, 1⟩], []⟩, true, 0))] at h2
  have h3 := request_v ⟨[⟨1, 1, 0, 1⟩, ⟨2, 1, 0, 1⟩], []⟩ ⟨by simp, by simp⟩ ⟨1, 1, 0, 2⟩
  rw [(by kernel_rfl : reqS ⟨[⟨1, 1, 0, 1⟩, ⟨2, 1, 0, 1⟩], []⟩ ⟨1, 1, 0, 2⟩ = (⟨[⟨1, 1, 0, 1⟩, ⟨2, 1, 0, 1⟩], [⟨1, 1, 0, 2⟩]⟩, false, 0))] at h3
  have h4 := release_v ⟨[⟨1, 1, 0, 1⟩, ⟨2, 1, 0, 1⟩], [⟨1, 1, 0, 2⟩]⟩ ⟨by simp, by simp⟩ 2
  rw [(by kernel_rfl : releaseS ⟨[⟨1, 1, 0, 1⟩, ⟨2, 1, 0, 1⟩], [⟨1, 1, 0, 2⟩]⟩ 2 = ⟨[⟨1, 1, 0, 2⟩], []⟩)] at h4
  have h5 := modeX_v ⟨[⟨1, 1, 0, 2⟩], []⟩ ⟨by simp, by simp⟩ 1 1 0
  rw [(by kernel_rfl : (if (⟨[⟨1, 1, 0, 2⟩], []⟩ : Lk).okB = true then modeS [⟨1, 1, 0, 2⟩] 1 1 0 else 0) = 2)] at h5
  unfold Lk.d Gr.d at h1 h2 h3
  unfold Lk.d at h4 h5
  dsimp only at h1 h2 h3 h4 h5
  simp (config := { maxSteps := 2000000 }) (implicitDefEqProofs := false) (disch := first | omega | assumption | (simp only [List.length_cons, List.length_nil, Nat.zero_add, Nat.reduceAdd]; done) | (simp only [IntKind.wrap_i64]; omega) | (simp only [List.length_replicate, List.length_set, List.length_append, List.length_cons, List.length_nil, List.length_take, List.length_drop, List.length_map] <;> omega) | fail) only [vop_assign, vcallee_assign, vop_alloc, vcallee_alloc, vop_build, vcallee_build, vop_load, vcallee_load, vop_store, vcallee_store, vcallee_value, vcal_fn, strip_pv, strip_ptr, strip_agg, strip_fn, optV_none, ev_tmp, ev_const, ev_func, ofConst_int, ofConst_bool, put_some, put_none, at_mk, fits_some, fits_none, ↓look_cons, ↓vlook_t, ↓vlook_f, guard_none, ↓vrun_nil, ↓code_region, ↓code_seq, ↓onNormal_normal, load_ptr, vld_agg, store_ptr, vst_agg, blk_zero, set_zero, alloc_eq, val1_some, allOne_nil, allOne_cons, one_pv, parts_nil, parts_cons, enum_nil, evG_eq, ↓vrun_cons, ↓run1_some, ↓run2_none, ↓run2_some, ↓run3_some, ↓vcg_none, at_hp, List.map_nil, dcells, vbuild, vfill, V.splice, List.toList_toArray, List.getElem?_cons_zero, List.getElem?_cons_succ, List.length_cons, List.length_nil, List.map_cons, List.map_nil, List.cons_append, List.nil_append, List.append_nil, List.take_succ_cons, List.take_zero, List.take_nil, List.drop_succ_cons, List.drop_zero, List.drop_nil, Option.map_some, ↓reduceIte, Nat.reduceAdd, Nat.reduceLT, Nat.reduceLeDiff, Nat.reduceBEq, Int.reduceLT, Int.reduceAdd, Int.reduceBEq, Nat.zero_add, true_and, and_self, Bool.true_and, Bool.and_self, cond_true, Bool.cond_self, beq_self_eq_true, Nat.le_refl, Try.vplaces26, Try.vzero26, Try.vt28, Try.vplaces28, Try.vzero28, Try.vplaces33, Try.vzero33, dec_t, Try.f8]
  refine VCalls.wkA ?_
  simp (config := { maxSteps := 2000000 }) (implicitDefEqProofs := false) (disch := first | omega | assumption | (simp only [List.length_cons, List.length_nil, Nat.zero_add, Nat.reduceAdd]; done) | (simp only [IntKind.wrap_i64]; omega) | (simp only [List.length_replicate, List.length_set, List.length_append, List.length_cons, List.length_nil, List.length_take, List.length_drop, List.length_map] <;> omega) | fail) only [DV.wk, DV.wk.go, PV.wk, DV.nums.go]
  refine vc_pure h1 rfl ?_
  simp (config := { maxSteps := 2000000 }) (implicitDefEqProofs := false) (disch := first | omega | assumption | (simp only [List.length_cons, List.length_nil, Nat.zero_add, Nat.reduceAdd]; done) | (simp only [IntKind.wrap_i64]; omega) | (simp only [List.length_replicate, List.length_set, List.length_append, List.length_cons, List.length_nil, List.length_take, List.length_drop, List.length_map] <;> omega) | fail) only [vop_move, vcallee_move, vop_assign, vcallee_assign, vop_alloc, vcallee_alloc, vop_build, vcallee_build, vop_load, vcallee_load, vop_store, vcallee_store, vop_extract, vcallee_extract, vcallee_value, vcal_fn, strip_pv, strip_ptr, strip_agg, strip_tup, strip_fn, optV_none, ev_tmp, ev_const, ev_func, ofConst_int, put_some, put_none, at_mk, fits_some, fits_none, ↓look_cons, ↓vlook_t, ↓vlook_f, guard_none, ↓vrun_nil, ↓code_region, ↓code_seq, ↓onNormal_normal, load_ptr, vld_agg, store_ptr, vst_agg, blk_zero, blk_succ, set_zero, set_succ, alloc_eq, val1_some, allOne_nil, allOne_cons, one_pv, ext_tup, parts_nil, parts_cons, evG_eq, ↓vrun_cons, ↓run1_some, ↓run2_none, ↓run2_some, ↓run3_some, ↓runK_eq, ↓vcg_none, at_hp, List.map_nil, dcells, vbuild, vfill, V.splice, List.getElem?_cons_zero, List.getElem?_cons_succ, List.length_cons, List.length_nil, List.map_cons, List.map_nil, List.cons_append, List.nil_append, List.append_nil, List.take_succ_cons, List.take_zero, List.take_nil, List.drop_succ_cons, List.drop_zero, List.drop_nil, Option.map_some, ↓reduceIte, Nat.reduceAdd, Nat.reduceLT, Nat.reduceLeDiff, Nat.reduceBEq, Int.reduceLT, Int.reduceAdd, Int.reduceBEq, Nat.zero_add, true_and, and_self, Bool.true_and, Bool.and_self, cond_true, Bool.cond_self, beq_self_eq_true, Nat.le_refl, Try.vt26, Try.vzero26, Try.vt28, Try.vplaces33, Try.vzero33, dec_t, reqD, Lk.d]
  refine vc_pure h2 rfl ?_
  simp (config := { maxSteps := 2000000 }) (implicitDefEqProofs := false) (disch := first | omega | assumption | (simp only [List.length_cons, List.length_nil, Nat.zero_add, Nat.reduceAdd]; done) | (simp only [IntKind.wrap_i64]; omega) | (simp only [List.length_replicate, List.length_set, List.length_append, List.length_cons, List.length_nil, List.length_take, List.length_drop, List.length_map] <;> omega) | fail) only [vop_move, vcallee_move, vop_assign, vcallee_assign, vop_build, vcallee_build, vop_load, vcallee_load, vop_store, vcallee_store, vop_extract, vcallee_extract, vcallee_value, vcal_fn, strip_pv, strip_ptr, strip_agg, strip_tup, strip_fn, optV_none, ev_tmp, ev_const, ev_func, ofConst_int, put_some, put_none, at_mk, fits_some, fits_none, ↓look_cons, ↓vlook_t, ↓vlook_f, guard_none, ↓vrun_nil, ↓code_region, ↓code_seq, ↓onNormal_normal, load_ptr, vld_agg, store_ptr, vst_agg, blk_zero, blk_succ, set_zero, set_succ, allOne_nil, allOne_cons, one_pv, ext_tup, parts_nil, parts_cons, evG_eq, ↓vrun_cons, ↓run1_some, ↓run2_none, ↓run2_some, ↓run3_some, ↓runK_eq, ↓vcg_none, at_hp, List.map_nil, dcells, vbuild, vfill, V.splice, List.getElem?_cons_zero, List.getElem?_cons_succ, List.length_cons, List.length_nil, List.map_cons, List.map_nil, List.cons_append, List.nil_append, List.append_nil, List.take_succ_cons, List.take_zero, List.take_nil, List.drop_succ_cons, List.drop_zero, List.drop_nil, Option.map_some, ↓reduceIte, Nat.reduceAdd, Nat.reduceLT, Nat.reduceLeDiff, Nat.reduceBEq, Int.reduceLT, Int.reduceAdd, Int.reduceBEq, Nat.zero_add, true_and, and_self, Bool.true_and, Bool.and_self, cond_true, Bool.cond_self, beq_self_eq_true, Nat.le_refl, Try.vt26, Try.vt28, Try.vplaces33, Try.vzero33, dec_t, reqD, Lk.d]
  refine vc_pure h3 rfl ?_
  simp (config := { maxSteps := 2000000 }) (implicitDefEqProofs := false) (disch := first | omega | assumption | (simp only [List.length_cons, List.length_nil, Nat.zero_add, Nat.reduceAdd]; done) | (simp only [IntKind.wrap_i64]; omega) | (simp only [List.length_replicate, List.length_set, List.length_append, List.length_cons, List.length_nil, List.length_take, List.length_drop, List.length_map] <;> omega) | fail) only [vop_move, vcallee_move, vop_assign, vcallee_assign, vop_load, vcallee_load, vop_store, vcallee_store, vop_extract, vcallee_extract, vcallee_value, vcal_fn, strip_pv, strip_ptr, strip_agg, strip_tup, strip_fn, optV_none, ev_tmp, ev_const, ev_func, ofConst_int, put_some, put_none, at_mk, fits_some, fits_none, ↓look_cons, ↓vlook_t, ↓vlook_f, guard_none, ↓vrun_nil, ↓code_region, ↓code_seq, ↓onNormal_normal, load_ptr, vld_agg, store_ptr, vst_agg, blk_zero, blk_succ, set_zero, set_succ, allOne_nil, allOne_cons, one_pv, ext_tup, evG_eq, ↓vrun_cons, ↓run1_some, ↓run2_none, ↓run2_some, ↓run3_some, ↓runK_eq, ↓vcg_none, at_hp, List.map_nil, V.splice, List.getElem?_cons_zero, List.getElem?_cons_succ, List.length_cons, List.length_nil, List.map_cons, List.map_nil, List.nil_append, List.append_nil, List.take_succ_cons, List.take_zero, List.take_nil, List.drop_succ_cons, List.drop_zero, List.drop_nil, Option.map_some, ↓reduceIte, Nat.reduceAdd, Nat.reduceLT, Nat.reduceBEq, Int.reduceLT, Int.reduceAdd, Int.reduceBEq, Nat.zero_add, true_and, and_self, Bool.true_and, Bool.and_self, cond_true, Bool.cond_self, beq_self_eq_true, Nat.le_refl, Try.vt26, dec_t, reqD, Lk.d]
  refine vc_pure h4 rfl ?_
  simp (config := { maxSteps := 2000000 }) (implicitDefEqProofs := false) (disch := first | omega | assumption | (simp only [List.length_cons, List.length_nil, Nat.zero_add, Nat.reduceAdd]; done) | (simp only [IntKind.wrap_i64]; omega) | (simp only [List.length_replicate, List.length_set, List.length_append, List.length_cons, List.length_nil, List.length_take, List.length_drop, List.length_map] <;> omega) | fail) only [vop_move, vcallee_move, vop_pick, vcallee_pick, vop_load, vcallee_load, vop_store, vcallee_store, vop_binOp, vcallee_binOp, vop_unOp, vcallee_unOp, vcallee_value, vcal_fn, bin2_int, vpick_bool, strip_pv, strip_ptr, strip_agg, strip_fn, strip_opt, vstr_true, optV_none, optV_some, pickV_bool, ev_tmp, ev_const, ev_func, ofConst_int, ofConst_bool, put_some, put_none, at_mk, fits_some, fits_none, ↓look_cons, ↓vlook_t, ↓vlook_f, guard_none, guard_some, vgof_bool, ↓vrun_nil, ↓code_region, ↓code_seq, ↓onNormal_normal, load_ptr, vld_agg, store_ptr, vst_agg, blk_zero, blk_succ, set_zero, set_succ, allOne_nil, allOne_cons, one_pv, bin_int, int_eql, un_not, evG_eq, ↓vrun_cons, ↓run1_some, ↓run2_none, ↓run2_some, ↓run3_some, ↓runK_eq, ↓vcg_some, at_hp, List.map_nil, V.splice, List.getElem?_cons_zero, List.getElem?_cons_succ, List.length_cons, List.length_nil, List.map_cons, List.map_nil, List.nil_append, List.append_nil, List.take_succ_cons, List.take_zero, List.take_nil, List.drop_succ_cons, List.drop_zero, List.drop_nil, Option.map_some, Option.bind_some, ↓reduceIte, Nat.reduceAdd, Nat.reduceLT, Nat.reduceBEq, Int.reduceLT, Int.reduceAdd, Int.reduceBEq, Nat.zero_add, true_and, and_self, or_true, Bool.not_true, Bool.not_false, Bool.or_true, Bool.true_and, Bool.and_self, cond_true, Bool.cond_self, beq_self_eq_true, Nat.le_refl, Try.vt26, Try.vt28, dec_t]
  refine vcg_pure (fun _ => h5) rfl ?_
  simp (config := { maxSteps := 2000000 }) (implicitDefEqProofs := false) (disch := first | omega | assumption | (simp only [List.length_cons, List.length_nil, Nat.zero_add, Nat.reduceAdd]; done) | (simp only [IntKind.wrap_i64]; omega) | (simp only [List.length_replicate, List.length_set, List.length_append, List.length_cons, List.length_nil, List.length_take, List.length_drop, List.length_map] <;> omega) | fail) only [vop_assign, vcallee_assign, vop_pick, vcallee_pick, vop_binOp, vcallee_binOp, bin2_int, vpick_bool, strip_pv, strip_opt, vstr_true, optV_none, optV_some, pickV_bool, ev_tmp, ev_const, ofConst_int, ofConst_bool, put_some, at_mk, fits_some, ↓look_cons, ↓vlook_t, ↓vlook_f, guard_none, guard_some, vgof_bool, ↓vrun_nil, ↓code_ret, ↓onNormal_normal, frz_pv, frzHeap_zero, res_one, vres_tmp, bin_int, int_eql, evG_eq, ↓vrun_cons, ↓run1_some, ↓run2_none, ↓run3_some, ↓runK_eq, ↓vpost_ret, vfin_some, vfin2_some, at_hp, List.getElem?_cons_zero, List.getElem?_cons_succ, Option.map_some, Option.bind_some, Nat.reduceLT, Nat.reduceBEq, Int.reduceLT, Int.reduceBEq, and_self, or_true, Bool.not_true, Bool.or_true, Bool.and_self, cond_true, Bool.cond_self, beq_self_eq_true, dec_t, Ret, DV.nums]
end Go.Proofs.Ytjiaadkncpajnaa

namespace Go.Proofs.Ytjiaadkncpajnaa
open Go.V Go
set_option maxRecDepth 100000
set_option pp.deepTerms true
set_option pp.deepTerms.threshold 100000
set_option pp.maxSteps 1000000
set_option pp.proofs false
set_option linter.unusedSimpArgs false

structure OL1 (ms : List UInt8) (n : Nat) where
  i : Nat
  hi : i ≤ n
  a : Nat
  full : Full ms 0 a i
def OL1.start (ms : List UInt8) (n : Nat) : OL1 ms n := ⟨0, Nat.zero_le _, 0, ⟨⟨Nat.le_refl _, Nat.le_refl _, .inl (by omega)⟩, .inl rfl⟩⟩
structure OL2 (ms : List UInt8) (n : Nat) where
  i : Nat
  hi : i ≤ n
  a : Nat
  full : Full ms i a n
structure OL3 (ms : List UInt8) (n i : Nat) where
  l : Nat
  hl : i ≤ l
  hn : l < n
  sh : ∀ j, i ≤ j → j ≤ l → exB ms j = false
structure OUp (n : Nat) where
  j : Nat
  hj : j ≤ n
set_option maxHeartbeats 2000000 in
theorem ord_walk (ms : List UInt8) (hl : ms.length ≤ 9223372036854775807) : VCalls Try.prog 3 [.pv (.sl (fz encU ms))] [] (Ret (.bool true)) := by
  refine vcalls_drop (fn := Try.f3) Try.func3 rfl (by kernel_rfl) (by simp [Try.f3]) ?_
  simp (config := { maxSteps := 2000000 }) (implicitDefEqProofs := false) (disch := first | omega | assumption | (simp only [List.length_cons, List.length_nil, Nat.zero_add, Nat.reduceAdd]; done) | (simp only [IntKind.wrap_i64]; omega) | (simp only [List.length_replicate, List.length_set, List.length_append, List.length_cons, List.length_nil, List.length_take, List.length_drop, List.length_map] <;> omega) | fail) only [vop_assign, vcallee_assign, vcallee_value, vcal_fn, strip_pv, strip_fn, optV_none, ev_const, ev_func, ofConst_bool, put_some, at_mk, fits_some, guard_none, ↓vrun_nil, ↓code_region, ↓code_seq, ↓onNormal_normal, enum_nil, enum_cons, evG_eq, ↓vrun_cons, ↓run1_some, ↓run2_none, ↓run2_some, ↓run3_some, ↓vcg_none, List.map_nil, List.toList_toArray, List.length_nil, List.map_nil, List.append_nil, Nat.reduceLT, Int.reduceLT, Nat.zero_add, true_and, Bool.true_and, Bool.cond_self, dec_t, Try.f3]
  refine vc_pure awake_v rfl ?_
  simp (config := { maxSteps := 2000000 }) (implicitDefEqProofs := false) (disch := first | omega | assumption | (simp only [List.length_cons, List.length_nil, Nat.zero_add, Nat.reduceAdd]; done) | (simp only [IntKind.wrap_i64]; omega) | (simp only [List.length_replicate, List.length_set, List.length_append, List.length_cons, List.length_nil, List.length_take, List.length_drop, List.length_map] <;> omega) | fail) only [vop_move, vcallee_move, vop_assign, vcallee_assign, vop_alloc, vcallee_alloc, vop_build, vcallee_build, vop_store, vcallee_store, vop_unOp, vcallee_unOp, vop_builtin, vcallee_builtin, strip_pv, strip_ptr, strip_agg, optV_none, ev_tmp, ev_const, ofConst_int, put_some, put_none, at_mk, fits_some, fits_none, ↓look_cons, ↓vlook_t, ↓vlook_f, guard_none, ↓vrun_nil, ↓code_skip, ↓code_region, ↓code_seq, ↓code_block, ↓code_loop, ↓onNormal_normal, store_ptr, vst_agg, blk_zero, blk_succ, set_zero, set_succ, alloc_eq, val1_some, allOne_nil, allOne_cons, one_pv, un_not, len_sl, vlk_sl, bi_len, bi_min, parts_nil, parts_cons, evG_eq, ↓vrun_cons, ↓run1_some, ↓run2_none, ↓run3_some, ↓runK_eq, ↓code_cond, ↓vtest_bool, ↓vbr_false, at_hp, List.map_nil, dcells, vbuild, vfill, V.splice, List.getElem?_cons_zero, List.getElem?_cons_succ, List.length_cons, List.length_nil, List.map_cons, List.map_nil, List.cons_append, List.nil_append, List.append_nil, List.take_succ_cons, List.take_zero, List.drop_succ_cons, List.drop_zero, List.drop_nil, Option.map_some, ↓reduceIte, Nat.reduceAdd, Nat.reduceLT, Nat.reduceLeDiff, Nat.reduceBEq, Int.reduceLT, Int.reduceAdd, Int.reduceBEq, Nat.zero_add, true_and, and_self, Bool.not_true, Bool.true_and, Bool.and_self, cond_true, Bool.cond_self, beq_self_eq_true, Nat.le_refl, fz_len, Try.vkind22, Try.vzero26, Try.vt28, Try.vplaces28, Try.vzero28, dec_t]
  obtain ⟨n, hn, hn1, hn2⟩ : ∃ n : Nat, (min ms.length 12) = n ∧ n ≤ 12 ∧ n ≤ ms.length := ⟨_, rfl, by omega, by omega⟩
  have hn' : (if 12 < (ms.length : Int) then 12 else (ms.length : Int)) = n := by split <;> omega
  rw [hn']
  refine VLoop.wkS ?_
  simp (config := { maxSteps := 2000000 }) (implicitDefEqProofs := false) (disch := first | omega | assumption | (simp only [List.length_cons, List.length_nil, Nat.zero_add, Nat.reduceAdd]; done) | (simp only [IntKind.wrap_i64]; omega) | (simp only [List.length_replicate, List.length_set, List.length_append, List.length_cons, List.length_nil, List.length_take, List.length_drop, List.length_map] <;> omega) | fail) only [List.map_nil, List.map_cons, List.map_nil, DV.wk, DV.wk.go, PV.wk, DV.nums.go, tmwk, hpwk, Blk.wk]
  refine vloopW (fun s : OL1 ms n => ⟨105, 0, [(6, .int .i64 s.i), (5, .ptr 1 0), (4, .int .i64 n), (3, .ptr 0 0), (0, .pv (.sl (fz encU ms)))], [⟨26, true, [.pv (.sl (fz encG (seqG ms 0 s.a))), .pv (.sl (fz encG (seqG ms s.a s.i)))]⟩, ⟨28, true, [.int .i64 3, .int .i64 3]⟩]⟩) (fun s => n - s.i) (OL1.start ms n) (by exact (by refine gc_of (keep := [0, 1]) rfl rfl rfl (by decide) ?_ ?_ <;> (repeat' apply And.intro) <;> first | trivial | rfl | exact ⟨_, rfl, rfl, rfl, .inl ⟨rfl, rfl⟩⟩ | exact ⟨_, rfl, rfl, rfl, .inl ⟨cells_nums _ _ _, rfl⟩⟩ | exact ⟨_, rfl, rfl, rfl, .inl ⟨pvs_nums _ _, rfl⟩⟩ | exact ⟨_, rfl, rfl, rfl, .inr ⟨rfl, rfl⟩⟩)) ?_
  intro s
  have hi := s.hi
  simp (config := { maxSteps := 2000000 }) (implicitDefEqProofs := false) (disch := first | omega | assumption | (simp only [List.length_cons, List.length_nil, Nat.zero_add, Nat.reduceAdd]; done) | (simp only [IntKind.wrap_i64]; omega) | (simp only [List.length_replicate, List.length_set, List.length_append, List.length_cons, List.length_nil, List.length_take, List.length_drop, List.length_map] <;> omega) | fail) only [vop_move, vcallee_move, vop_binOp, vcallee_binOp, bin2_tmp, strip_pv, optV_none, ev_tmp, put_some, at_mk, fits_some, ↓look_cons, ↓vlook_t, ↓vlook_f, guard_none, ↓vrun_nil, ↓code_region, ↓code_seq, ↓onNormal_normal, bin_int, int_lss, evG_eq, ↓vrun_cons, ↓run1_some, ↓run2_none, ↓run3_some, ↓code_cond, ↓vtest_bool, at_hp, Option.map_some, Nat.reduceLT, Nat.reduceBEq, Int.reduceLT, Int.reduceBEq, true_and, Bool.true_and, Bool.cond_self, beq_self_eq_true, dec_t]
  refine vbr_split (fun hc => ?_) (fun hc => ?_) <;> simp only [decide_eq_true_eq, decide_eq_false_iff_not, Bool.or_eq_true, Bool.and_eq_true, Bool.or_eq_false_iff, Bool.and_eq_false_imp, Bool.not_eq_true', Bool.not_eq_false', beq_iff_eq, beq_eq_false_iff_ne, bne_iff_ne, bne_eq_false_iff_eq, ne_eq] at hc
  · have hlt : s.i < n := by omega
    have hg := fzU_get ms s.i (by omega)
    have htm : ((ms.getD s.i 0).toNat : Int).tmod 2 = ((ms.getD s.i 0).toNat % 2 : Nat) := by rw [tmod_n (by omega)]; omega
    have hsm : (seqT ms 0 s.a s.i).sm := by
      have := s.full.h2
      exact ⟨by show (seqG _ _ _).length ≤ _; rw [seqG_len]; omega, by show (seqG _ _ _).length ≤ _; rw [seqG_len]; omega⟩
    obtain ⟨b, c, hb1, hb2⟩ := seq_req ms s.full (by omega)
    have hq := request_v (seqT ms 0 s.a s.i) hsm (og ms s.i)
    rw [hb2] at hq
    unfold Lk.d Gr.d at hq
    unfold og seqT at hq
    dsimp only at hq
    have hh : (ms.getD s.i 0).toNat < 256 := UInt8.toNat_lt _
    have hz : (ms.getD s.i 0).toNat % 2 < 2 := Nat.mod_lt _ (by omega)
    generalize ((ms.getD s.i 0).toNat % 2 : Nat) = z at htm hq hz
    simp (config := { maxSteps := 2000000 }) (implicitDefEqProofs := false) (disch := first | omega | assumption | (simp only [List.length_cons, List.length_nil, Nat.zero_add, Nat.reduceAdd]; done) | (simp only [IntKind.wrap_i64]; omega) | (simp only [List.length_replicate, List.length_set, List.length_append, List.length_cons, List.length_nil, List.length_take, List.length_drop, List.length_map] <;> omega) | fail) only [↓code_skip, ↓code_draw, ↓code_seq, ↓code_block, ↓onNormal_normal, dec_t]
    refine vspine [0, 1, 2, 3, 4, 5, 6, 7, 8, 9, 10, 11] [⟨[17], [], 12, [1, 2, 3, 4, 5, 6, 7, 8, 9, 10], [13, 14, 15, 16]⟩, ⟨[17], [17], 18, [15, 16], []⟩, ⟨[], [], 19, [16], []⟩, ⟨[], [], 20, [], []⟩] (by kernel_rfl) (by kernel_rfl) ?_
    simp (config := { maxSteps := 2000000 }) (implicitDefEqProofs := false) (disch := first | omega | assumption | (simp only [List.length_cons, List.length_nil, Nat.zero_add, Nat.reduceAdd]; done) | (simp only [IntKind.wrap_i64]; omega) | (simp only [List.length_replicate, List.length_set, List.length_append, List.length_cons, List.length_nil, List.length_take, List.length_drop, List.length_map] <;> omega) | fail) only [vop_move, vcallee_move, vop_alloc, vop_build, vcallee_build, vop_load, vcallee_load, vop_binOp, vcallee_binOp, vop_convert, vcallee_convert, vop_indexAddr, vcallee_indexAddr, vcallee_value, vcal_fn, conv_pv, bin2_tmp, bin2_int, strip_pv, strip_ptr, strip_ip, strip_agg, strip_fn, optV_none, ev_tmp, ev_const, ev_func, ofConst_int, put_some, at_mk, fits_some, ↓look_cons, ↓vlook_t, ↓vlook_f, guard_none, ↓vrun_nil, load_ptr, load_ip, vld_agg, vldp_one, blk_zero, blk_succ, alloc_eq, val1_some, allOne_nil, allOne_cons, one_pv, iaddr_sl, vias_some, bin_int, int_add, int_rem, parts_nil, parts_cons, conv_int, vci_int, evG_eq, ↓vrun_cons, ↓run1_some, ↓run2_none, ↓run2_some, ↓run3_some, ↓vcg_none, at_hp, List.map_nil, dcells, vbuild, vfill, V.splice, List.toList_toArray, List.getElem?_cons_zero, List.getElem?_cons_succ, List.length_cons, List.length_nil, List.map_cons, List.map_nil, List.cons_append, List.nil_append, List.append_nil, List.take_succ_cons, List.take_zero, List.take_nil, List.drop_succ_cons, List.drop_zero, List.drop_nil, Option.map_some, ↓reduceIte, Nat.reduceAdd, Nat.reduceLT, Nat.reduceLeDiff, Nat.reduceBEq, Int.reduceLT, Int.reduceAdd, Int.reduceBEq, Int.toNat_natCast, Nat.zero_add, true_and, and_self, Bool.true_and, Bool.and_self, Bool.cond_self, beq_self_eq_true, Nat.le_refl, ↓vsp_cons, vspC_true, vspR_eq, pick_nil, pick_cons, pickO_some, creas_nil, creas_cons, creaOk_eq, creaM_ptr, creaOk2_some, Op.operands, DV.wk.go, Try.vkind3, Try.vt5, Try.vkind5, Try.velem22, Try.vt26, Try.vzero26, Try.vt28, Try.vplaces33, Try.vzero33, wrap_i64_in, dec_t, DV.nums, DV.nums.go, hg, htm]
    refine vc_pure hq rfl ?_
    simp (config := { maxSteps := 2000000 }) (implicitDefEqProofs := false) (disch := first | omega | assumption | (simp only [List.length_cons, List.length_nil, Nat.zero_add, Nat.reduceAdd]; done) | (simp only [IntKind.wrap_i64]; omega) | (simp only [List.length_replicate, List.length_set, List.length_append, List.length_cons, List.length_nil, List.length_take, List.length_drop, List.length_map] <;> omega) | fail) only [vop_move, vcallee_move, foot_move, vop_assign, vcallee_assign, vop_alloc, vcallee_alloc, vop_load, vcallee_load, vop_store, vcallee_store, vop_binOp, vcallee_binOp, foot_binOp, foot_indexAddr, vop_extract, vcallee_extract, foot_extract, foot_load, foot_convert, ptrNo_ptr, ptrNo_ip, bin2_int, ownNo_pv, strip_pv, strip_ptr, strip_ip, strip_agg, strip_tup, optV_none, ev_tmp, ev_const, ofConst_int, put_some, put_none, at_mk, fits_some, fits_none, ↓look_cons, ↓vlook_t, ↓vlook_f, guard_none, ↓vrun_nil, ↓code_skip, ↓code_region, ↓code_seq, ↓onNormal_normal, ↓onBlock_normal, load_ptr, vld_agg, store_ptr, vst_agg, blk_zero, blk_succ, set_zero, set_succ, alloc_eq, val1_some, allOne_nil, allOne_cons, one_pv, bin_int, int_add, int_neq, ext_tup, evG_eq, ↓vrun_cons, ↓run1_some, ↓run2_none, ↓run3_some, ↓runK_eq, ↓code_cond, ↓vtest_bool, ↓vbr_false, at_hp, List.map_nil, V.splice, List.toList_toArray, List.getElem?_cons_zero, List.getElem?_cons_succ, List.length_cons, List.length_nil, List.map_nil, List.cons_append, List.nil_append, List.append_nil, List.take_succ_cons, List.take_zero, List.take_nil, List.drop_succ_cons, List.drop_zero, List.drop_nil, Option.map_some, ↓reduceIte, Nat.reduceAdd, Nat.reduceLT, Nat.reduceBEq, Int.reduceLT, Int.reduceAdd, Int.reduceBEq, Nat.zero_add, true_and, and_self, Bool.true_and, Bool.and_self, cond_true, Bool.cond_self, beq_self_eq_true, Nat.le_refl, ↓vsp_nil, ↓vsp_cons, ↓vspK_eq, vspC_true, vspR_eq, pick_nil, pick_cons, pickO_some, creas_nil, creas_cons, creaOk_eq, creaM_ptr, creaOk2_some, agree_nil, agree_cons, agree1_some, sameAt_nil, sameAt_cons, Op.operands, DV.wk.go, Try.vt26, Try.vzero26, wrap_i64_in, dec_t, int_bne_f, DV.nums, DV.nums.go, reqD, Lk.d]
    exact ⟨⟨s.i + 1, hlt, b, hb1⟩, by show n - (s.i + 1) < n - s.i; omega, (by refine gc_of (keep := [0, 1]) rfl rfl rfl (by decide) ?_ ?_ <;> (repeat' apply And.intro) <;> first | trivial | rfl | exact ⟨_, rfl, rfl, rfl, .inl ⟨rfl, rfl⟩⟩ | exact ⟨_, rfl, rfl, rfl, .inl ⟨cells_nums _ _ _, rfl⟩⟩ | exact ⟨_, rfl, rfl, rfl, .inl ⟨pvs_nums _ _, rfl⟩⟩ | exact ⟨_, rfl, rfl, rfl, .inr ⟨rfl, rfl⟩⟩)⟩
  · have hin : s.i = n := by omega
    have hful := s.full
    rw [hin] at hful
    simp (config := { maxSteps := 2000000 }) (implicitDefEqProofs := false) (disch := first | omega | assumption | (simp only [List.length_cons, List.length_nil, Nat.zero_add, Nat.reduceAdd]; done) | (simp only [IntKind.wrap_i64]; omega) | (simp only [List.length_replicate, List.length_set, List.length_append, List.length_cons, List.length_nil, List.length_take, List.length_drop, List.length_map] <;> omega) | fail) only [vop_assign, vcallee_assign, strip_pv, optV_none, ev_const, ofConst_int, put_some, at_mk, fits_some, guard_none, ↓vrun_nil, ↓code_region, ↓code_seq, ↓code_block, ↓code_loop, ↓code_exit, ↓onNormal_normal, ↓onNormal_exit, ↓onBlock_exit, evG_eq, ↓vrun_cons, ↓run1_some, ↓run2_none, ↓run3_some, ↓reduceIte, Nat.reduceLT, Int.reduceLT, true_and, Bool.true_and, Bool.cond_self, dec_t, dec_f]
    rw [hin]
    refine vloopW (fun s : OL2 ms n => ⟨105, 0, [(10, .int .i64 s.i), (5, .ptr 1 0), (4, .int .i64 n), (3, .ptr 0 0), (0, .pv (.sl (fz encU ms)))], [⟨26, true, [.pv (.sl (fz encG (seqG ms s.i s.a))), .pv (.sl (fz encG (seqG ms s.a n)))]⟩, ⟨28, true, [.int .i64 3, .int .i64 3]⟩]⟩) (fun s => n - s.i) (⟨0, Nat.zero_le _, s.a, hful⟩) (by exact (by refine gc_of (keep := [0, 1]) rfl rfl rfl (by decide) ?_ ?_ <;> (repeat' apply And.intro) <;> first | trivial | rfl | exact ⟨_, rfl, rfl, rfl, .inl ⟨rfl, rfl⟩⟩ | exact ⟨_, rfl, rfl, rfl, .inl ⟨cells_nums _ _ _, rfl⟩⟩ | exact ⟨_, rfl, rfl, rfl, .inl ⟨pvs_nums _ _, rfl⟩⟩ | exact ⟨_, rfl, rfl, rfl, .inr ⟨rfl, rfl⟩⟩)) ?_
    clear hful hin hc hi s
    intro s
    have hi := s.hi
    simp (config := { maxSteps := 2000000 }) (implicitDefEqProofs := false) (disch := first | omega | assumption | (simp only [List.length_cons, List.length_nil, Nat.zero_add, Nat.reduceAdd]; done) | (simp only [IntKind.wrap_i64]; omega) | (simp only [List.length_replicate, List.length_set, List.length_append, List.length_cons, List.length_nil, List.length_take, List.length_drop, List.length_map] <;> omega) | fail) only [vop_move, vcallee_move, vop_binOp, vcallee_binOp, bin2_tmp, strip_pv, optV_none, ev_tmp, put_some, at_mk, fits_some, ↓look_cons, ↓vlook_t, ↓vlook_f, guard_none, ↓vrun_nil, ↓code_region, ↓code_seq, ↓onNormal_normal, bin_int, int_lss, evG_eq, ↓vrun_cons, ↓run1_some, ↓run2_none, ↓run3_some, ↓code_cond, ↓vtest_bool, at_hp, Option.map_some, Nat.reduceLT, Nat.reduceBEq, Int.reduceLT, Int.reduceBEq, true_and, Bool.true_and, Bool.cond_self, beq_self_eq_true, dec_t]
    refine vbr_split (fun hc => ?_) (fun hc => ?_) <;> simp only [decide_eq_true_eq, decide_eq_false_iff_not, Bool.or_eq_true, Bool.and_eq_true, Bool.or_eq_false_iff, Bool.and_eq_false_imp, Bool.not_eq_true', Bool.not_eq_false', beq_iff_eq, beq_eq_false_iff_ne, bne_iff_ne, bne_eq_false_iff_eq, ne_eq] at hc
    · have hlt : s.i < n := by omega
      have hg := fzU_get ms s.i (by omega)
      simp (config := { maxSteps := 2000000 }) (implicitDefEqProofs := false) (disch := first | omega | assumption | (simp only [List.length_cons, List.length_nil, Nat.zero_add, Nat.reduceAdd]; done) | (simp only [IntKind.wrap_i64]; omega) | (simp only [List.length_replicate, List.length_set, List.length_append, List.length_cons, List.length_nil, List.length_take, List.length_drop, List.length_map] <;> omega) | fail) only [vop_move, vcallee_move, vop_assign, vcallee_assign, vop_load, vcallee_load, vop_binOp, vcallee_binOp, vop_indexAddr, vcallee_indexAddr, bin2_int, strip_pv, strip_ip, optV_none, ev_tmp, ev_const, ofConst_int, put_some, at_mk, fits_some, ↓look_cons, ↓vlook_t, ↓vlook_f, guard_none, ↓vrun_nil, ↓code_skip, ↓code_region, ↓code_seq, ↓code_block, ↓onNormal_normal, load_ip, vldp_one, iaddr_sl, vias_some, bin_int, int_eql, int_rem, evG_eq, ↓vrun_cons, ↓run1_some, ↓run2_none, ↓run3_some, ↓code_cond, ↓vtest_bool, at_hp, List.getElem?_cons_zero, List.length_cons, List.length_nil, Option.map_some, Nat.reduceLT, Nat.reduceBEq, Int.reduceLT, Int.reduceBEq, Int.toNat_natCast, Nat.zero_add, true_and, Bool.true_and, Bool.cond_self, beq_self_eq_true, Try.vt5, Try.velem22, dec_t, hg]
      refine vbr_split (fun hb => ?_) (fun hb => ?_)
      · have hxi : exB ms s.i = false := by
          simp only [beq_iff_eq] at hb
          rw [tmod_n (by omega)] at hb
          exact decide_eq_false (by omega)
        simp (config := { maxSteps := 2000000 }) (implicitDefEqProofs := false) (disch := first | omega | assumption | (simp only [List.length_cons, List.length_nil, Nat.zero_add, Nat.reduceAdd]; done) | (simp only [IntKind.wrap_i64]; omega) | (simp only [List.length_replicate, List.length_set, List.length_append, List.length_cons, List.length_nil, List.length_take, List.length_drop, List.length_map] <;> omega) | fail) only [↓code_block, ↓code_loop]
        refine vloopW (fun q : OL3 ms n s.i => ⟨105, 0, [(11, .int .i64 q.l), (10, .int .i64 s.i), (5, .ptr 1 0), (4, .int .i64 n), (3, .ptr 0 0), (0, .pv (.sl (fz encU ms)))], [⟨26, true, [.pv (.sl (fz encG (seqG ms s.i s.a))), .pv (.sl (fz encG (seqG ms s.a n)))]⟩, ⟨28, true, [.int .i64 3, .int .i64 3]⟩]⟩) (fun q => n - q.l) ⟨s.i, Nat.le_refl _, hlt, fun j g1 g2 => by rw [show j = s.i by omega]; exact hxi⟩ (by exact (by refine gc_of (keep := [0, 1]) rfl rfl rfl (by decide) ?_ ?_ <;> (repeat' apply And.intro) <;> first | trivial | rfl | exact ⟨_, rfl, rfl, rfl, .inl ⟨rfl, rfl⟩⟩ | exact ⟨_, rfl, rfl, rfl, .inl ⟨cells_nums _ _ _, rfl⟩⟩ | exact ⟨_, rfl, rfl, rfl, .inl ⟨pvs_nums _ _, rfl⟩⟩ | exact ⟨_, rfl, rfl, rfl, .inr ⟨rfl, rfl⟩⟩)) ?_
        intro p
        have hpl := p.hl
        have hpn := p.hn
        have fin : (p.l + 1 < n → exB ms (p.l + 1) = true) → p.l + 1 = s.a := fun hnx => full_last ms s.full hlt p.l hpl hpn (fun _ => p.sh) (fun h => by rw [hxi] at h; cases h) (fun _ => hnx)
        simp (config := { maxSteps := 2000000 }) (implicitDefEqProofs := false) (disch := first | omega | assumption | (simp only [List.length_cons, List.length_nil, Nat.zero_add, Nat.reduceAdd]; done) | (simp only [IntKind.wrap_i64]; omega) | (simp only [List.length_replicate, List.length_set, List.length_append, List.length_cons, List.length_nil, List.length_take, List.length_drop, List.length_map] <;> omega) | fail) only [vop_move, vcallee_move, vop_binOp, vcallee_binOp, vop_indexAddr, vcallee_indexAddr, bin2_tmp, bin2_int, strip_pv, strip_opt, vstr_true, optV_none, optV_some, ev_tmp, ev_const, ofConst_int, put_some, at_mk, fits_some, ↓look_cons, ↓vlook_t, ↓vlook_f, guard_none, guard_some, vgof_bool, ↓code_region, ↓code_seq, iaddr_sl, bin_int, int_add, int_lss, evG_eq, ↓vrun_cons, ↓run1_some, ↓run2_none, ↓run3_some, at_hp, List.getElem?_cons_zero, List.getElem?_cons_succ, Option.map_some, Option.bind_some, Nat.reduceLT, Nat.reduceBEq, Int.reduceLT, Int.reduceBEq, true_and, Bool.true_and, Bool.not_or_self, b_beq_t, Bool.cond_self, beq_self_eq_true, Try.velem22, wrap_i64_in, dec_t]
        by_cases hk : p.l + 1 < n
        · have hk' : (p.l : Int) + 1 < n := by omega
          have hgl := fzU_get ms (p.l + 1) (by omega)
          have hll : ((p.l : Int) + 1).toNat = p.l + 1 := by omega
          by_cases hx : exB ms (p.l + 1) = true
          · have hz : ¬ ((ms.getD (p.l + 1) 0).toNat : Int).tmod 2 = 0 := by
              rw [tmod_n (by omega)]
              have := of_decide_eq_true hx
              omega
            have hla := fin fun _ => hx
            simp (config := { maxSteps := 2000000 }) (implicitDefEqProofs := false) (disch := first | omega | assumption | (simp only [List.length_cons, List.length_nil, Nat.zero_add, Nat.reduceAdd]; done) | (simp only [IntKind.wrap_i64]; omega) | (simp only [List.length_replicate, List.length_set, List.length_append, List.length_cons, List.length_nil, List.length_take, List.length_drop, List.length_map] <;> omega) | fail) only [vop_assign, vcallee_assign, vop_pick, vcallee_pick, vop_load, vcallee_load, vop_binOp, vcallee_binOp, bin2_int, vpick_bool, strip_pv, strip_opt, vstr_true, optV_none, optV_some, pickV_bool, ev_tmp, ev_const, ofConst_int, ofConst_bool, put_some, at_mk, fits_some, ↓look_cons, ↓vlook_t, ↓vlook_f, guard_none, guard_some, vgof_bool, ↓vrun_nil, ↓code_region, ↓code_seq, ↓code_block, ↓code_loop, ↓code_exit, ↓onNormal_normal, ↓onNormal_exit, ↓onBlock_exit, load_ip, vldp_one, vias_some, bin_int, int_eql, int_rem, evG_eq, ↓vrun_cons, ↓run1_some, ↓run2_none, ↓run3_some, ↓code_cond, ↓vtest_bool, ↓vbr_false, at_hp, List.getElem?_cons_zero, List.getElem?_cons_succ, List.length_cons, List.length_nil, Option.map_some, Option.bind_some, ↓reduceIte, Nat.reduceLT, Nat.reduceBEq, Int.reduceLT, Int.reduceBEq, Nat.zero_add, true_and, or_true, Bool.not_true, Bool.or_true, Bool.true_and, Bool.cond_self, beq_self_eq_true, Try.vt5, dec_t, int_beq_f, hk', hgl, hll]
            refine vloopW (fun q : OUp n => ⟨105, 0, [(12, .int .i64 q.j), (11, .int .i64 p.l), (10, .int .i64 s.i), (5, .ptr 1 0), (4, .int .i64 n), (3, .ptr 0 0), (0, .pv (.sl (fz encU ms)))], [⟨26, true, [.pv (.sl (fz encG (seqG ms s.i s.a))), .pv (.sl (fz encG (seqG ms s.a n)))]⟩, ⟨28, true, [.int .i64 3, .int .i64 3]⟩]⟩) (fun q => n - q.j) ⟨0, Nat.zero_le _⟩ (by exact (by refine gc_of (keep := [0, 1]) rfl rfl rfl (by decide) ?_ ?_ <;> (repeat' apply And.intro) <;> first | trivial | rfl | exact ⟨_, rfl, rfl, rfl, .inl ⟨rfl, rfl⟩⟩ | exact ⟨_, rfl, rfl, rfl, .inl ⟨cells_nums _ _ _, rfl⟩⟩ | exact ⟨_, rfl, rfl, rfl, .inl ⟨pvs_nums _ _, rfl⟩⟩ | exact ⟨_, rfl, rfl, rfl, .inr ⟨rfl, rfl⟩⟩)) ?_
            intro q
            have hj := q.hj
            have hsm : (seqT ms s.i s.a n).sm := by
              have := s.full.h1
              have := s.full.h2
              exact ⟨by show (seqG _ _ _).length ≤ _; rw [seqG_len]; omega, by show (seqG _ _ _).length ≤ _; rw [seqG_len]; omega⟩
            simp (config := { maxSteps := 2000000 }) (implicitDefEqProofs := false) (disch := first | omega | assumption | (simp only [List.length_cons, List.length_nil, Nat.zero_add, Nat.reduceAdd]; done) | (simp only [IntKind.wrap_i64]; omega) | (simp only [List.length_replicate, List.length_set, List.length_append, List.length_cons, List.length_nil, List.length_take, List.length_drop, List.length_map] <;> omega) | fail) only [vop_move, vcallee_move, vop_binOp, vcallee_binOp, bin2_tmp, strip_pv, optV_none, ev_tmp, put_some, at_mk, fits_some, ↓look_cons, ↓vlook_t, ↓vlook_f, guard_none, ↓vrun_nil, ↓code_region, ↓code_seq, ↓onNormal_normal, bin_int, int_lss, evG_eq, ↓vrun_cons, ↓run1_some, ↓run2_none, ↓run3_some, ↓code_cond, ↓vtest_bool, at_hp, Option.map_some, Nat.reduceLT, Nat.reduceBEq, Int.reduceLT, Int.reduceBEq, true_and, Bool.true_and, Bool.cond_self, beq_self_eq_true, dec_t]
            refine vbr_split (fun hd => ?_) (fun hd => ?_) <;> simp only [decide_eq_true_eq, decide_eq_false_iff_not, Bool.or_eq_true, Bool.and_eq_true, Bool.or_eq_false_iff, Bool.and_eq_false_imp, Bool.not_eq_true', Bool.not_eq_false', beq_iff_eq, beq_eq_false_iff_ne, bne_iff_ne, bne_eq_false_iff_eq, ne_eq] at hd
            · have hjlt : q.j < n := by omega
              have hmd := modeX_v (seqT ms s.i s.a n) hsm (q.j + 1) 3 3
              have hsq := seq_mode ms s.full (by omega) q.j
              unfold Lk.d seqT at hmd
              unfold seqT at hsq
              dsimp only at hmd hsq
              generalize (if (⟨seqG ms s.i s.a, seqG ms s.a n⟩ : Lk).okB = true then modeS (seqG ms s.i s.a) ((q.j : Int) + 1) 3 3 else 0) = z at hmd hsq
              simp (config := { maxSteps := 2000000 }) (implicitDefEqProofs := false) (disch := first | omega | assumption | (simp only [List.length_cons, List.length_nil, Nat.zero_add, Nat.reduceAdd]; done) | (simp only [IntKind.wrap_i64]; omega) | (simp only [List.length_replicate, List.length_set, List.length_append, List.length_cons, List.length_nil, List.length_take, List.length_drop, List.length_map] <;> omega) | fail) only [vop_move, vcallee_move, vop_load, vcallee_load, vop_binOp, vcallee_binOp, vcallee_value, vcal_fn, bin2_int, strip_pv, strip_ptr, strip_agg, strip_fn, optV_none, ev_tmp, ev_const, ev_func, ofConst_int, put_some, at_mk, fits_some, ↓look_cons, ↓vlook_t, ↓vlook_f, guard_none, ↓code_skip, ↓code_region, ↓code_seq, ↓code_block, ↓onNormal_normal, load_ptr, vld_agg, blk_zero, blk_succ, bin_int, int_add, evG_eq, ↓vrun_cons, ↓run1_some, ↓run2_none, ↓run2_some, ↓run3_some, ↓vcg_none, at_hp, List.map_nil, List.length_cons, List.length_nil, List.map_cons, List.map_nil, List.nil_append, List.append_nil, List.take_succ_cons, List.take_nil, List.drop_zero, Option.map_some, ↓reduceIte, Nat.reduceAdd, Nat.reduceLT, Nat.reduceBEq, Int.reduceLT, Int.reduceAdd, Int.reduceBEq, Nat.zero_add, true_and, Bool.true_and, Bool.cond_self, beq_self_eq_true, Nat.le_refl, Try.vt26, Try.vt28, wrap_i64_in, dec_t]
              refine vc_pure hmd rfl ?_
              by_cases h1 : s.i ≤ q.j ∧ q.j ≤ p.l
              · have h2 : 0 < z := hsq.2 ⟨h1.1, by omega⟩
                have h3 : (s.i : Int) ≤ q.j := by omega
                have h4 : (q.j : Int) ≤ (p.l : Int) := by omega
                simp (config := { maxSteps := 2000000 }) (implicitDefEqProofs := false) (disch := first | omega | assumption | (simp only [List.length_cons, List.length_nil, Nat.zero_add, Nat.reduceAdd]; done) | (simp only [IntKind.wrap_i64]; omega) | (simp only [List.length_replicate, List.length_set, List.length_append, List.length_cons, List.length_nil, List.length_take, List.length_drop, List.length_map] <;> omega) | fail) only [vop_move, vcallee_move, vop_assign, vcallee_assign, vop_pick, vcallee_pick, vop_binOp, vcallee_binOp, bin2_tmp, bin2_int, vpick_bool, strip_pv, strip_opt, vstr_true, optV_none, optV_some, pickV_bool, ev_tmp, ev_const, ofConst_int, ofConst_bool, put_some, at_mk, fits_some, ↓look_cons, ↓vlook_t, ↓vlook_f, guard_none, guard_some, vgof_bool, ↓vrun_nil, ↓code_skip, ↓code_region, ↓onNormal_normal, ↓onBlock_normal, bin_int, int_add, int_leq, int_gtr, int_geq, evG_eq, ↓vrun_cons, ↓run1_some, ↓run2_none, ↓run3_some, ↓runK_eq, ↓code_cond, ↓vtest_bool, ↓vbr_false, at_hp, bin_bool, vbb_neq, List.getElem?_cons_zero, List.getElem?_cons_succ, Option.map_some, Option.bind_some, Nat.reduceLT, Nat.reduceBEq, Int.reduceLT, Int.reduceBEq, true_and, or_true, Bool.not_true, Bool.or_true, Bool.true_and, cond_true, Bool.cond_self, beq_self_eq_true, Try.vkind4, wrap_i64_in, dec_t, h2, h3, h4]
                exact ⟨⟨q.j + 1, hjlt⟩, by show n - (q.j + 1) < n - q.j; omega, (by refine gc_of (keep := [0, 1]) rfl rfl rfl (by decide) ?_ ?_ <;> (repeat' apply And.intro) <;> first | trivial | rfl | exact ⟨_, rfl, rfl, rfl, .inl ⟨rfl, rfl⟩⟩ | exact ⟨_, rfl, rfl, rfl, .inl ⟨cells_nums _ _ _, rfl⟩⟩ | exact ⟨_, rfl, rfl, rfl, .inl ⟨pvs_nums _ _, rfl⟩⟩ | exact ⟨_, rfl, rfl, rfl, .inr ⟨rfl, rfl⟩⟩)⟩
              · have h2 : ¬ 0 < z := fun h => h1 ⟨(hsq.1 h).1, by have := (hsq.1 h).2; omega⟩
                by_cases h3 : (s.i : Int) ≤ q.j
                · have h4 : ¬ (q.j : Int) ≤ (p.l : Int) := by omega
                  simp (config := { maxSteps := 2000000 }) (implicitDefEqProofs := false) (disch := first | omega | assumption | (simp only [List.length_cons, List.length_nil, Nat.zero_add, Nat.reduceAdd]; done) | (simp only [IntKind.wrap_i64]; omega) | (simp only [List.length_replicate, List.length_set, List.length_append, List.length_cons, List.length_nil, List.length_take, List.length_drop, List.length_map] <;> omega) | fail) only [vop_move, vcallee_move, vop_assign, vcallee_assign, vop_pick, vcallee_pick, vop_binOp, vcallee_binOp, bin2_tmp, bin2_int, vpick_bool, strip_pv, strip_opt, vstr_true, optV_none, optV_some, pickV_bool, ev_tmp, ev_const, ofConst_int, ofConst_bool, put_some, at_mk, fits_some, ↓look_cons, ↓vlook_t, ↓vlook_f, guard_none, guard_some, vgof_bool, ↓vrun_nil, ↓code_skip, ↓code_region, ↓onNormal_normal, ↓onBlock_normal, bin_int, int_add, int_leq, int_gtr, int_geq, evG_eq, ↓vrun_cons, ↓run1_some, ↓run2_none, ↓run3_some, ↓runK_eq, ↓code_cond, ↓vtest_bool, ↓vbr_false, at_hp, bin_bool, vbb_neq, List.getElem?_cons_zero, List.getElem?_cons_succ, Option.map_some, Option.bind_some, Nat.reduceLT, Nat.reduceBEq, Int.reduceLT, Int.reduceBEq, decide_false, true_and, or_true, Bool.not_true, Bool.or_true, Bool.true_and, Bool.cond_self, beq_self_eq_true, Try.vkind4, wrap_i64_in, dec_t, h2, h3, h4]
                  exact ⟨⟨q.j + 1, hjlt⟩, by show n - (q.j + 1) < n - q.j; omega, (by refine gc_of (keep := [0, 1]) rfl rfl rfl (by decide) ?_ ?_ <;> (repeat' apply And.intro) <;> first | trivial | rfl | exact ⟨_, rfl, rfl, rfl, .inl ⟨rfl, rfl⟩⟩ | exact ⟨_, rfl, rfl, rfl, .inl ⟨cells_nums _ _ _, rfl⟩⟩ | exact ⟨_, rfl, rfl, rfl, .inl ⟨pvs_nums _ _, rfl⟩⟩ | exact ⟨_, rfl, rfl, rfl, .inr ⟨rfl, rfl⟩⟩)⟩
                · simp (config := { maxSteps := 2000000 }) (implicitDefEqProofs := false) (disch := first | omega | assumption | (simp only [List.length_cons, List.length_nil, Nat.zero_add, Nat.reduceAdd]; done) | (simp only [IntKind.wrap_i64]; omega) | (simp only [List.length_replicate, List.length_set, List.length_append, List.length_cons, List.length_nil, List.length_take, List.length_drop, List.length_map] <;> omega) | fail) only [vop_move, vcallee_move, vop_assign, vcallee_assign, vop_pick, vcallee_pick, vop_binOp, vcallee_binOp, bin2_tmp, bin2_int, vpick_bool, strip_pv, strip_opt, vstr_true, vstr_false, optV_none, optV_some, pickV_bool, ev_tmp, ev_const, ofConst_int, ofConst_bool, put_some, at_mk, fits_some, ↓look_cons, ↓vlook_t, ↓vlook_f, guard_none, guard_some, vgof_bool, ↓vrun_nil, ↓code_skip, ↓code_region, ↓onNormal_normal, ↓onBlock_normal, bin_int, int_add, int_leq, int_gtr, int_geq, evG_eq, ↓vrun_cons, ↓run1_some, ↓run2_none, ↓run3_some, ↓runK_eq, ↓code_cond, ↓vtest_bool, ↓vbr_false, at_hp, bin_bool, vbb_neq, List.getElem?_cons_zero, List.getElem?_cons_succ, Option.map_some, Option.bind_some, Nat.reduceLT, Nat.reduceBEq, Int.reduceLT, Int.reduceBEq, decide_false, true_and, or_false, or_self, Bool.not_true, Bool.not_false, Bool.or_false, Bool.true_and, Bool.or_self, b_beq_t, cond_false, Bool.cond_self, beq_self_eq_true, Try.vkind4, wrap_i64_in, dec_t, h2, h3]
                  exact ⟨⟨q.j + 1, hjlt⟩, by show n - (q.j + 1) < n - q.j; omega, (by refine gc_of (keep := [0, 1]) rfl rfl rfl (by decide) ?_ ?_ <;> (repeat' apply And.intro) <;> first | trivial | rfl | exact ⟨_, rfl, rfl, rfl, .inl ⟨rfl, rfl⟩⟩ | exact ⟨_, rfl, rfl, rfl, .inl ⟨cells_nums _ _ _, rfl⟩⟩ | exact ⟨_, rfl, rfl, rfl, .inl ⟨pvs_nums _ _, rfl⟩⟩ | exact ⟨_, rfl, rfl, rfl, .inr ⟨rfl, rfl⟩⟩)⟩
            · obtain ⟨b, hb1, hb2⟩ := seq_rel ms s.full hlt (by omega)
              have hrl := release_v (seqT ms s.i s.a n) hsm ((s.i : Int) + 1)
              rw [hb2] at hrl
              unfold Lk.d seqT at hrl
              dsimp only at hrl
              simp (config := { maxSteps := 2000000 }) (implicitDefEqProofs := false) (disch := first | omega | assumption | (simp only [List.length_cons, List.length_nil, Nat.zero_add, Nat.reduceAdd]; done) | (simp only [IntKind.wrap_i64]; omega) | (simp only [List.length_replicate, List.length_set, List.length_append, List.length_cons, List.length_nil, List.length_take, List.length_drop, List.length_map] <;> omega) | fail) only [vop_move, vcallee_move, vop_load, vcallee_load, vop_binOp, vcallee_binOp, vcallee_value, vcal_fn, bin2_int, strip_pv, strip_ptr, strip_agg, strip_fn, optV_none, ev_tmp, ev_const, ev_func, ofConst_int, put_some, at_mk, fits_some, ↓look_cons, ↓vlook_t, ↓vlook_f, guard_none, ↓code_region, ↓code_exit, ↓onNormal_normal, ↓onNormal_exit, ↓onBlock_exit, load_ptr, vld_agg, blk_zero, bin_int, int_add, evG_eq, ↓vrun_cons, ↓run1_some, ↓run2_none, ↓run2_some, ↓run3_some, ↓vcg_none, at_hp, List.map_nil, List.length_cons, List.length_nil, List.map_cons, List.map_nil, List.nil_append, List.append_nil, List.take_succ_cons, List.take_nil, List.drop_zero, Option.map_some, ↓reduceIte, Nat.reduceAdd, Nat.reduceLT, Nat.reduceBEq, Int.reduceLT, Int.reduceAdd, Int.reduceBEq, Nat.zero_add, true_and, Bool.true_and, Bool.cond_self, beq_self_eq_true, Nat.le_refl, Try.vt26, wrap_i64_in, dec_t, dec_f]
              refine vc_pure hrl rfl ?_
              simp (config := { maxSteps := 2000000 }) (implicitDefEqProofs := false) (disch := first | omega | assumption | (simp only [List.length_cons, List.length_nil, Nat.zero_add, Nat.reduceAdd]; done) | (simp only [IntKind.wrap_i64]; omega) | (simp only [List.length_replicate, List.length_set, List.length_append, List.length_cons, List.length_nil, List.length_take, List.length_drop, List.length_map] <;> omega) | fail) only [vop_move, vcallee_move, vop_assign, vcallee_assign, vop_store, vcallee_store, vop_binOp, vcallee_binOp, bin2_int, strip_pv, strip_ptr, strip_agg, optV_none, ev_tmp, ev_const, ofConst_int, put_some, put_none, at_mk, fits_some, fits_none, ↓look_cons, ↓vlook_t, ↓vlook_f, guard_none, ↓vrun_nil, ↓code_region, ↓onNormal_normal, ↓onBlock_normal, store_ptr, vst_agg, blk_zero, set_zero, allOne_nil, allOne_cons, one_pv, bin_int, int_add, evG_eq, ↓vrun_cons, ↓run1_some, ↓run2_none, ↓run3_some, ↓runK_eq, at_hp, V.splice, List.length_cons, List.length_nil, List.nil_append, List.append_nil, List.take_zero, List.drop_succ_cons, List.drop_nil, Option.map_some, ↓reduceIte, Nat.reduceAdd, Nat.reduceLT, Nat.reduceBEq, Int.reduceLT, Int.reduceAdd, Int.reduceBEq, Nat.zero_add, true_and, and_self, Bool.true_and, Bool.and_self, cond_true, Bool.cond_self, beq_self_eq_true, Nat.le_refl, Try.vt26, wrap_i64_in, dec_t]
              exact ⟨⟨s.i + 1, hlt, b, hb1⟩, by show n - (s.i + 1) < n - s.i; omega, (by refine gc_of (keep := [0, 1]) rfl rfl rfl (by decide) ?_ ?_ <;> (repeat' apply And.intro) <;> first | trivial | rfl | exact ⟨_, rfl, rfl, rfl, .inl ⟨rfl, rfl⟩⟩ | exact ⟨_, rfl, rfl, rfl, .inl ⟨cells_nums _ _ _, rfl⟩⟩ | exact ⟨_, rfl, rfl, rfl, .inl ⟨pvs_nums _ _, rfl⟩⟩ | exact ⟨_, rfl, rfl, rfl, .inr ⟨rfl, rfl⟩⟩)⟩
          · have hx' : exB ms (p.l + 1) = false := by simpa using hx
            have hz : ((ms.getD (p.l + 1) 0).toNat : Int).tmod 2 = 0 := by
              rw [tmod_n (by omega)]
              have := of_decide_eq_false hx'
              omega
            simp (config := { maxSteps := 2000000 }) (implicitDefEqProofs := false) (disch := first | omega | assumption | (simp only [List.length_cons, List.length_nil, Nat.zero_add, Nat.reduceAdd]; done) | (simp only [IntKind.wrap_i64]; omega) | (simp only [List.length_replicate, List.length_set, List.length_append, List.length_cons, List.length_nil, List.length_take, List.length_drop, List.length_map] <;> omega) | fail) only [vop_move, vcallee_move, vop_assign, vcallee_assign, vop_pick, vcallee_pick, vop_load, vcallee_load, vop_binOp, vcallee_binOp, bin2_int, vpick_bool, strip_pv, strip_opt, vstr_true, optV_none, optV_some, pickV_bool, ev_tmp, ev_const, ofConst_int, ofConst_bool, put_some, at_mk, fits_some, ↓look_cons, ↓vlook_t, ↓vlook_f, guard_none, guard_some, vgof_bool, ↓vrun_nil, ↓code_skip, ↓code_region, ↓code_block, ↓onNormal_normal, ↓onBlock_normal, load_ip, vldp_one, vias_some, bin_int, int_add, int_eql, int_rem, evG_eq, ↓vrun_cons, ↓run1_some, ↓run2_none, ↓run3_some, ↓code_cond, ↓vtest_bool, ↓vbr_true, at_hp, List.getElem?_cons_zero, List.getElem?_cons_succ, List.length_cons, List.length_nil, Option.map_some, Option.bind_some, Nat.reduceLT, Nat.reduceBEq, Int.reduceLT, Int.reduceBEq, Nat.zero_add, true_and, or_true, Bool.not_true, Bool.or_true, Bool.true_and, cond_true, Bool.cond_self, beq_self_eq_true, Try.vt5, wrap_i64_in, dec_t, hk', hgl, hll, hz]
            exact ⟨⟨p.l + 1, by omega, hk, fun j g1 g2 => by
              rcases Nat.lt_or_ge p.l j with h | h
              · rw [show j = p.l + 1 by omega]; exact hx'
              · exact p.sh j g1 h⟩, by show n - (p.l + 1) < n - p.l; omega, (by refine gc_of (keep := [0, 1]) rfl rfl rfl (by decide) ?_ ?_ <;> (repeat' apply And.intro) <;> first | trivial | rfl | exact ⟨_, rfl, rfl, rfl, .inl ⟨rfl, rfl⟩⟩ | exact ⟨_, rfl, rfl, rfl, .inl ⟨cells_nums _ _ _, rfl⟩⟩ | exact ⟨_, rfl, rfl, rfl, .inl ⟨pvs_nums _ _, rfl⟩⟩ | exact ⟨_, rfl, rfl, rfl, .inr ⟨rfl, rfl⟩⟩)⟩
        · have hk' : ¬ (p.l : Int) + 1 < n := by omega
          have hla := fin fun h => absurd h hk
          by_cases hm : p.l + 1 < ms.length
          · have hgl := fzU_get ms (p.l + 1) hm
            have hll : ((p.l : Int) + 1).toNat = p.l + 1 := by omega
            simp (config := { maxSteps := 2000000 }) (implicitDefEqProofs := false) (disch := first | omega | assumption | (simp only [List.length_cons, List.length_nil, Nat.zero_add, Nat.reduceAdd]; done) | (simp only [IntKind.wrap_i64]; omega) | (simp only [List.length_replicate, List.length_set, List.length_append, List.length_cons, List.length_nil, List.length_take, List.length_drop, List.length_map] <;> omega) | fail) only [vop_assign, vcallee_assign, vop_pick, vcallee_pick, vop_load, vcallee_load, vop_binOp, vcallee_binOp, bin2_int, vpick_bool, strip_pv, strip_opt, vstr_true, vstr_false, optV_none, optV_some, pickV_bool, ev_tmp, ev_const, ofConst_int, ofConst_bool, put_some, at_mk, fits_some, ↓look_cons, ↓vlook_t, ↓vlook_f, guard_none, guard_some, vgof_bool, ↓vrun_nil, ↓code_region, ↓code_seq, ↓code_block, ↓code_loop, ↓code_exit, ↓onNormal_normal, ↓onNormal_exit, ↓onBlock_exit, load_ip, vldp_one, vias_some, bin_int, int_eql, int_rem, evG_eq, ↓vrun_cons, ↓run1_some, ↓run2_none, ↓run3_some, ↓code_cond, ↓vtest_bool, ↓vbr_false, at_hp, List.getElem?_cons_zero, List.getElem?_cons_succ, List.length_cons, List.length_nil, Option.map_some, Option.bind_some, ↓reduceIte, Nat.reduceLT, Nat.reduceBEq, Int.reduceLT, Int.reduceBEq, Nat.zero_add, decide_false, true_and, or_false, or_self, Bool.not_true, Bool.not_false, Bool.or_false, Bool.true_and, Bool.or_self, b_beq_t, cond_false, Bool.cond_self, beq_self_eq_true, Try.vt5, dec_t, hk', hgl, hll]
            refine vloopW (fun q : OUp n => ⟨105, 0, [(12, .int .i64 q.j), (11, .int .i64 p.l), (10, .int .i64 s.i), (5, .ptr 1 0), (4, .int .i64 n), (3, .ptr 0 0), (0, .pv (.sl (fz encU ms)))], [⟨26, true, [.pv (.sl (fz encG (seqG ms s.i s.a))), .pv (.sl (fz encG (seqG ms s.a n)))]⟩, ⟨28, true, [.int .i64 3, .int .i64 3]⟩]⟩) (fun q => n - q.j) ⟨0, Nat.zero_le _⟩ (by exact (by refine gc_of (keep := [0, 1]) rfl rfl rfl (by decide) ?_ ?_ <;> (repeat' apply And.intro) <;> first | trivial | rfl | exact ⟨_, rfl, rfl, rfl, .inl ⟨rfl, rfl⟩⟩ | exact ⟨_, rfl, rfl, rfl, .inl ⟨cells_nums _ _ _, rfl⟩⟩ | exact ⟨_, rfl, rfl, rfl, .inl ⟨pvs_nums _ _, rfl⟩⟩ | exact ⟨_, rfl, rfl, rfl, .inr ⟨rfl, rfl⟩⟩)) ?_
            intro q
            have hj := q.hj
            have hsm : (seqT ms s.i s.a n).sm := by
              have := s.full.h1
              have := s.full.h2
              exact ⟨by show (seqG _ _ _).length ≤ _; rw [seqG_len]; omega, by show (seqG _ _ _).length ≤ _; rw [seqG_len]; omega⟩
            simp (config := { maxSteps := 2000000 }) (implicitDefEqProofs := false) (disch := first | omega | assumption | (simp only [List.length_cons, List.length_nil, Nat.zero_add, Nat.reduceAdd]; done) | (simp only [IntKind.wrap_i64]; omega) | (simp only [List.length_replicate, List.length_set, List.length_append, List.length_cons, List.length_nil, List.length_take, List.length_drop, List.length_map] <;> omega) | fail) only [vop_move, vcallee_move, vop_binOp, vcallee_binOp, bin2_tmp, strip_pv, optV_none, ev_tmp, put_some, at_mk, fits_some, ↓look_cons, ↓vlook_t, ↓vlook_f, guard_none, ↓vrun_nil, ↓code_region, ↓code_seq, ↓onNormal_normal, bin_int, int_lss, evG_eq, ↓vrun_cons, ↓run1_some, ↓run2_none, ↓run3_some, ↓code_cond, ↓vtest_bool, at_hp, Option.map_some, Nat.reduceLT, Nat.reduceBEq, Int.reduceLT, Int.reduceBEq, true_and, Bool.true_and, Bool.cond_self, beq_self_eq_true, dec_t]
            refine vbr_split (fun hd => ?_) (fun hd => ?_) <;> simp only [decide_eq_true_eq, decide_eq_false_iff_not, Bool.or_eq_true, Bool.and_eq_true, Bool.or_eq_false_iff, Bool.and_eq_false_imp, Bool.not_eq_true', Bool.not_eq_false', beq_iff_eq, beq_eq_false_iff_ne, bne_iff_ne, bne_eq_false_iff_eq, ne_eq] at hd
            · have hjlt : q.j < n := by omega
              have hmd := modeX_v (seqT ms s.i s.a n) hsm (q.j + 1) 3 3
              have hsq := seq_mode ms s.full (by omega) q.j
              unfold Lk.d seqT at hmd
              unfold seqT at hsq
              dsimp only at hmd hsq
              generalize (if (⟨seqG ms s.i s.a, seqG ms s.a n⟩ : Lk).okB = true then modeS (seqG ms s.i s.a) ((q.j : Int) + 1) 3 3 else 0) = z at hmd hsq
              simp (config := { maxSteps := 2000000 }) (implicitDefEqProofs := false) (disch := first | omega | assumption | (simp only [List.length_cons, List.length_nil, Nat.zero_add, Nat.reduceAdd]; done) | (simp only [IntKind.wrap_i64]; omega) | (simp only [List.length_replicate, List.length_set, List.length_append, List.length_cons, List.length_nil, List.length_take, List.length_drop, List.length_map] <;> omega) | fail) only [vop_move, vcallee_move, vop_load, vcallee_load, vop_binOp, vcallee_binOp, vcallee_value, vcal_fn, bin2_int, strip_pv, strip_ptr, strip_agg, strip_fn, optV_none, ev_tmp, ev_const, ev_func, ofConst_int, put_some, at_mk, fits_some, ↓look_cons, ↓vlook_t, ↓vlook_f, guard_none, ↓code_skip, ↓code_region, ↓code_seq, ↓code_block, ↓onNormal_normal, load_ptr, vld_agg, blk_zero, blk_succ, bin_int, int_add, evG_eq, ↓vrun_cons, ↓run1_some, ↓run2_none, ↓run2_some, ↓run3_some, ↓vcg_none, at_hp, List.map_nil, List.length_cons, List.length_nil, List.map_cons, List.map_nil, List.nil_append, List.append_nil, List.take_succ_cons, List.take_nil, List.drop_zero, Option.map_some, ↓reduceIte, Nat.reduceAdd, Nat.reduceLT, Nat.reduceBEq, Int.reduceLT, Int.reduceAdd, Int.reduceBEq, Nat.zero_add, true_and, Bool.true_and, Bool.cond_self, beq_self_eq_true, Nat.le_refl, Try.vt26, Try.vt28, wrap_i64_in, dec_t]
              refine vc_pure hmd rfl ?_
              by_cases h1 : s.i ≤ q.j ∧ q.j ≤ p.l
              · have h2 : 0 < z := hsq.2 ⟨h1.1, by omega⟩
                have h3 : (s.i : Int) ≤ q.j := by omega
                have h4 : (q.j : Int) ≤ (p.l : Int) := by omega
                simp (config := { maxSteps := 2000000 }) (implicitDefEqProofs := false) (disch := first | omega | assumption | (simp only [List.length_cons, List.length_nil, Nat.zero_add, Nat.reduceAdd]; done) | (simp only [IntKind.wrap_i64]; omega) | (simp only [List.length_replicate, List.length_set, List.length_append, List.length_cons, List.length_nil, List.length_take, List.length_drop, List.length_map] <;> omega) | fail) only [vop_move, vcallee_move, vop_assign, vcallee_assign, vop_pick, vcallee_pick, vop_binOp, vcallee_binOp, bin2_tmp, bin2_int, vpick_bool, strip_pv, strip_opt, vstr_true, optV_none, optV_some, pickV_bool, ev_tmp, ev_const, ofConst_int, ofConst_bool, put_some, at_mk, fits_some, ↓look_cons, ↓vlook_t, ↓vlook_f, guard_none, guard_some, vgof_bool, ↓vrun_nil, ↓code_skip, ↓code_region, ↓onNormal_normal, ↓onBlock_normal, bin_int, int_add, int_leq, int_gtr, int_geq, evG_eq, ↓vrun_cons, ↓run1_some, ↓run2_none, ↓run3_some, ↓runK_eq, ↓code_cond, ↓vtest_bool, ↓vbr_false, at_hp, bin_bool, vbb_neq, List.getElem?_cons_zero, List.getElem?_cons_succ, Option.map_some, Option.bind_some, Nat.reduceLT, Nat.reduceBEq, Int.reduceLT, Int.reduceBEq, true_and, or_true, Bool.not_true, Bool.or_true, Bool.true_and, cond_true, Bool.cond_self, beq_self_eq_true, Try.vkind4, wrap_i64_in, dec_t, h2, h3, h4]
                exact ⟨⟨q.j + 1, hjlt⟩, by show n - (q.j + 1) < n - q.j; omega, (by refine gc_of (keep := [0, 1]) rfl rfl rfl (by decide) ?_ ?_ <;> (repeat' apply And.intro) <;> first | trivial | rfl | exact ⟨_, rfl, rfl, rfl, .inl ⟨rfl, rfl⟩⟩ | exact ⟨_, rfl, rfl, rfl, .inl ⟨cells_nums _ _ _, rfl⟩⟩ | exact ⟨_, rfl, rfl, rfl, .inl ⟨pvs_nums _ _, rfl⟩⟩ | exact ⟨_, rfl, rfl, rfl, .inr ⟨rfl, rfl⟩⟩)⟩
              · have h2 : ¬ 0 < z := fun h => h1 ⟨(hsq.1 h).1, by have := (hsq.1 h).2; omega⟩
                by_cases h3 : (s.i : Int) ≤ q.j
                · have h4 : ¬ (q.j : Int) ≤ (p.l : Int) := by omega
                  simp (config := { maxSteps := 2000000 }) (implicitDefEqProofs := false) (disch := first | omega | assumption | (simp only [List.length_cons, List.length_nil, Nat.zero_add, Nat.reduceAdd]; done) | (simp only [IntKind.wrap_i64]; omega) | (simp only [List.length_replicate, List.length_set, List.length_append, List.length_cons, List.length_nil, List.length_take, List.length_drop, List.length_map] <;> omega) | fail) only [vop_move, vcallee_move, vop_assign, vcallee_assign, vop_pick, vcallee_pick, vop_binOp, vcallee_binOp, bin2_tmp, bin2_int, vpick_bool, strip_pv, strip_opt, vstr_true, optV_none, optV_some, pickV_bool, ev_tmp, ev_const, ofConst_int, ofConst_bool, put_some, at_mk, fits_some, ↓look_cons, ↓vlook_t, ↓vlook_f, guard_none, guard_some, vgof_bool, ↓vrun_nil, ↓code_skip, ↓code_region, ↓onNormal_normal, ↓onBlock_normal, bin_int, int_add, int_leq, int_gtr, int_geq, evG_eq, ↓vrun_cons, ↓run1_some, ↓run2_none, ↓run3_some, ↓runK_eq, ↓code_cond, ↓vtest_bool, ↓vbr_false, at_hp, bin_bool, vbb_neq, List.getElem?_cons_zero, List.getElem?_cons_succ, Option.map_some, Option.bind_some, Nat.reduceLT, Nat.reduceBEq, Int.reduceLT, Int.reduceBEq, true_and, or_true, Bool.not_true, Bool.or_true, Bool.true_and, cond_true, Bool.cond_self, beq_self_eq_true, Try.vkind4, wrap_i64_in, dec_t, h2, h3, h4]
                  exact ⟨⟨q.j + 1, hjlt⟩, by show n - (q.j + 1) < n - q.j; omega, (by refine gc_of (keep := [0, 1]) rfl rfl rfl (by decide) ?_ ?_ <;> (repeat' apply And.intro) <;> first | trivial | rfl | exact ⟨_, rfl, rfl, rfl, .inl ⟨rfl, rfl⟩⟩ | exact ⟨_, rfl, rfl, rfl, .inl ⟨cells_nums _ _ _, rfl⟩⟩ | exact ⟨_, rfl, rfl, rfl, .inl ⟨pvs_nums _ _, rfl⟩⟩ | exact ⟨_, rfl, rfl, rfl, .inr ⟨rfl, rfl⟩⟩)⟩
                · simp (config := { maxSteps := 2000000 }) (implicitDefEqProofs := false) (disch := first | omega | assumption | (simp only [List.length_cons, List.length_nil, Nat.zero_add, Nat.reduceAdd]; done) | (simp only [IntKind.wrap_i64]; omega) | (simp only [List.length_replicate, List.length_set, List.length_append, List.length_cons, List.length_nil, List.length_take, List.length_drop, List.length_map] <;> omega) | fail) only [vop_move, vcallee_move, vop_assign, vcallee_assign, vop_pick, vcallee_pick, vop_binOp, vcallee_binOp, bin2_tmp, bin2_int, vpick_bool, strip_pv, strip_opt, vstr_true, vstr_false, optV_none, optV_some, pickV_bool, ev_tmp, ev_const, ofConst_int, ofConst_bool, put_some, at_mk, fits_some, ↓look_cons, ↓vlook_t, ↓vlook_f, guard_none, guard_some, vgof_bool, ↓vrun_nil, ↓code_skip, ↓code_region, ↓onNormal_normal, ↓onBlock_normal, bin_int, int_add, int_leq, int_gtr, int_geq, evG_eq, ↓vrun_cons, ↓run1_some, ↓run2_none, ↓run3_some, ↓runK_eq, ↓code_cond, ↓vtest_bool, ↓vbr_false, at_hp, bin_bool, vbb_neq, List.getElem?_cons_zero, List.getElem?_cons_succ, Option.map_some, Option.bind_some, Nat.reduceLT, Nat.reduceBEq, Int.reduceLT, Int.reduceBEq, decide_false, true_and, or_false, or_self, Bool.not_true, Bool.not_false, Bool.or_false, Bool.true_and, Bool.or_self, b_beq_t, cond_false, Bool.cond_self, beq_self_eq_true, Try.vkind4, wrap_i64_in, dec_t, h2, h3]
                  exact ⟨⟨q.j + 1, hjlt⟩, by show n - (q.j + 1) < n - q.j; omega, (by refine gc_of (keep := [0, 1]) rfl rfl rfl (by decide) ?_ ?_ <;> (repeat' apply And.intro) <;> first | trivial | rfl | exact ⟨_, rfl, rfl, rfl, .inl ⟨rfl, rfl⟩⟩ | exact ⟨_, rfl, rfl, rfl, .inl ⟨cells_nums _ _ _, rfl⟩⟩ | exact ⟨_, rfl, rfl, rfl, .inl ⟨pvs_nums _ _, rfl⟩⟩ | exact ⟨_, rfl, rfl, rfl, .inr ⟨rfl, rfl⟩⟩)⟩
            · obtain ⟨b, hb1, hb2⟩ := seq_rel ms s.full hlt (by omega)
              have hrl := release_v (seqT ms s.i s.a n) hsm ((s.i : Int) + 1)
              rw [hb2] at hrl
              unfold Lk.d seqT at hrl
              dsimp only at hrl
              simp (config := { maxSteps := 2000000 }) (implicitDefEqProofs := false) (disch := first | omega | assumption | (simp only [List.length_cons, List.length_nil, Nat.zero_add, Nat.reduceAdd]; done) | (simp only [IntKind.wrap_i64]; omega) | (simp only [List.length_replicate, List.length_set, List.length_append, List.length_cons, List.length_nil, List.length_take, List.length_drop, List.length_map] <;> omega) | fail) only [vop_move, vcallee_move, vop_load, vcallee_load, vop_binOp, vcallee_binOp, vcallee_value, vcal_fn, bin2_int, strip_pv, strip_ptr, strip_agg, strip_fn, optV_none, ev_tmp, ev_const, ev_func, ofConst_int, put_some, at_mk, fits_some, ↓look_cons, ↓vlook_t, ↓vlook_f, guard_none, ↓code_region, ↓code_exit, ↓onNormal_normal, ↓onNormal_exit, ↓onBlock_exit, load_ptr, vld_agg, blk_zero, bin_int, int_add, evG_eq, ↓vrun_cons, ↓run1_some, ↓run2_none, ↓run2_some, ↓run3_some, ↓vcg_none, at_hp, List.map_nil, List.length_cons, List.length_nil, List.map_cons, List.map_nil, List.nil_append, List.append_nil, List.take_succ_cons, List.take_nil, List.drop_zero, Option.map_some, ↓reduceIte, Nat.reduceAdd, Nat.reduceLT, Nat.reduceBEq, Int.reduceLT, Int.reduceAdd, Int.reduceBEq, Nat.zero_add, true_and, Bool.true_and, Bool.cond_self, beq_self_eq_true, Nat.le_refl, Try.vt26, wrap_i64_in, dec_t, dec_f]
              refine vc_pure hrl rfl ?_
              simp (config := { maxSteps := 2000000 }) (implicitDefEqProofs := false) (disch := first | omega | assumption | (simp only [List.length_cons, List.length_nil, Nat.zero_add, Nat.reduceAdd]; done) | (simp only [IntKind.wrap_i64]; omega) | (simp only [List.length_replicate, List.length_set, List.length_append, List.length_cons, List.length_nil, List.length_take, List.length_drop, List.length_map] <;> omega) | fail) only [vop_move, vcallee_move, vop_assign, vcallee_assign, vop_store, vcallee_store, vop_binOp, vcallee_binOp, bin2_int, strip_pv, strip_ptr, strip_agg, optV_none, ev_tmp, ev_const, ofConst_int, put_some, put_none, at_mk, fits_some, fits_none, ↓look_cons, ↓vlook_t, ↓vlook_f, guard_none, ↓vrun_nil, ↓code_region, ↓onNormal_normal, ↓onBlock_normal, store_ptr, vst_agg, blk_zero, set_zero, allOne_nil, allOne_cons, one_pv, bin_int, int_add, evG_eq, ↓vrun_cons, ↓run1_some, ↓run2_none, ↓run3_some, ↓runK_eq, at_hp, V.splice, List.length_cons, List.length_nil, List.nil_append, List.append_nil, List.take_zero, List.drop_succ_cons, List.drop_nil, Option.map_some, ↓reduceIte, Nat.reduceAdd, Nat.reduceLT, Nat.reduceBEq, Int.reduceLT, Int.reduceAdd, Int.reduceBEq, Nat.zero_add, true_and, and_self, Bool.true_and, Bool.and_self, cond_true, Bool.cond_self, beq_self_eq_true, Nat.le_refl, Try.vt26, wrap_i64_in, dec_t]
              exact ⟨⟨s.i + 1, hlt, b, hb1⟩, by show n - (s.i + 1) < n - s.i; omega, (by refine gc_of (keep := [0, 1]) rfl rfl rfl (by decide) ?_ ?_ <;> (repeat' apply And.intro) <;> first | trivial | rfl | exact ⟨_, rfl, rfl, rfl, .inl ⟨rfl, rfl⟩⟩ | exact ⟨_, rfl, rfl, rfl, .inl ⟨cells_nums _ _ _, rfl⟩⟩ | exact ⟨_, rfl, rfl, rfl, .inl ⟨pvs_nums _ _, rfl⟩⟩ | exact ⟨_, rfl, rfl, rfl, .inr ⟨rfl, rfl⟩⟩)⟩
          · have hv : vias (some (none, 5, 1)) (fz encU ms)[((p.l : Int) + 1).toNat]? ((p.l : Int) + 1) = none := by
              rw [show ((p.l : Int) + 1).toNat = p.l + 1 by omega, List.getElem?_eq_none (by rw [fz_len]; omega)]; rfl
            simp (config := { maxSteps := 2000000 }) (implicitDefEqProofs := false) (disch := first | omega | assumption | (simp only [List.length_cons, List.length_nil, Nat.zero_add, Nat.reduceAdd]; done) | (simp only [IntKind.wrap_i64]; omega) | (simp only [List.length_replicate, List.length_set, List.length_append, List.length_cons, List.length_nil, List.length_take, List.length_drop, List.length_map] <;> omega) | fail) only [vop_assign, vcallee_assign, vop_pick, vcallee_pick, vop_load, vcallee_load, vop_binOp, vcallee_binOp, bin2_int, vpick_bool, strip_pv, strip_tup, optV_none, ev_tmp, ev_const, ofConst_int, ofConst_bool, put_some, at_mk, fits_some, ↓look_cons, ↓vlook_t, ↓vlook_f, guard_none, guard_some, vgof_bool, ↓vrun_nil, ↓code_region, ↓code_seq, ↓code_block, ↓code_loop, ↓code_exit, ↓onNormal_normal, ↓onNormal_exit, ↓onBlock_exit, evG_eq, ↓vrun_cons, ↓run1_some, ↓run2_none, ↓run3_some, ↓run3_none, ↓code_cond, ↓vtest_bool, ↓vbr_false, at_hp, pickV_f, load_tup, bin_tupL, List.getElem?_cons_zero, List.getElem?_cons_succ, Option.map_some, Option.map_none, Option.bind_some, ↓reduceIte, Nat.reduceLT, Nat.reduceBEq, Int.reduceLT, Int.reduceBEq, decide_false, true_and, Bool.not_false, Bool.true_and, b_beq_t, Bool.cond_self, beq_self_eq_true, dec_t, hk', hv]
            refine vloopW (fun q : OUp n => ⟨105, 0, [(12, .int .i64 q.j), (11, .int .i64 p.l), (10, .int .i64 s.i), (5, .ptr 1 0), (4, .int .i64 n), (3, .ptr 0 0), (0, .pv (.sl (fz encU ms)))], [⟨26, true, [.pv (.sl (fz encG (seqG ms s.i s.a))), .pv (.sl (fz encG (seqG ms s.a n)))]⟩, ⟨28, true, [.int .i64 3, .int .i64 3]⟩]⟩) (fun q => n - q.j) ⟨0, Nat.zero_le _⟩ (by exact (by refine gc_of (keep := [0, 1]) rfl rfl rfl (by decide) ?_ ?_ <;> (repeat' apply And.intro) <;> first | trivial | rfl | exact ⟨_, rfl, rfl, rfl, .inl ⟨rfl, rfl⟩⟩ | exact ⟨_, rfl, rfl, rfl, .inl ⟨cells_nums _ _ _, rfl⟩⟩ | exact ⟨_, rfl, rfl, rfl, .inl ⟨pvs_nums _ _, rfl⟩⟩ | exact ⟨_, rfl, rfl, rfl, .inr ⟨rfl, rfl⟩⟩)) ?_
            intro q
            have hj := q.hj
            have hsm : (seqT ms s.i s.a n).sm := by
              have := s.full.h1
              have := s.full.h2
              exact ⟨by show (seqG _ _ _).length ≤ _; rw [seqG_len]; omega, by show (seqG _ _ _).length ≤ _; rw [seqG_len]; omega⟩
            simp (config := { maxSteps := 2000000 }) (implicitDefEqProofs := false) (disch := first | omega | assumption | (simp only [List.length_cons, List.length_nil, Nat.zero_add, Nat.reduceAdd]; done) | (simp only [IntKind.wrap_i64]; omega) | (simp only [List.length_replicate, List.length_set, List.length_append, List.length_cons, List.length_nil, List.length_take, List.length_drop, List.length_map] <;> omega) | fail) only [vop_move, vcallee_move, vop_binOp, vcallee_binOp, bin2_tmp, strip_pv, optV_none, ev_tmp, put_some, at_mk, fits_some, ↓look_cons, ↓vlook_t, ↓vlook_f, guard_none, ↓vrun_nil, ↓code_region, ↓code_seq, ↓onNormal_normal, bin_int, int_lss, evG_eq, ↓vrun_cons, ↓run1_some, ↓run2_none, ↓run3_some, ↓code_cond, ↓vtest_bool, at_hp, Option.map_some, Nat.reduceLT, Nat.reduceBEq, Int.reduceLT, Int.reduceBEq, true_and, Bool.true_and, Bool.cond_self, beq_self_eq_true, dec_t]
            refine vbr_split (fun hd => ?_) (fun hd => ?_) <;> simp only [decide_eq_true_eq, decide_eq_false_iff_not, Bool.or_eq_true, Bool.and_eq_true, Bool.or_eq_false_iff, Bool.and_eq_false_imp, Bool.not_eq_true', Bool.not_eq_false', beq_iff_eq, beq_eq_false_iff_ne, bne_iff_ne, bne_eq_false_iff_eq, ne_eq] at hd
            · have hjlt : q.j < n := by omega
              have hmd := modeX_v (seqT ms s.i s.a n) hsm (q.j + 1) 3 3
              have hsq := seq_mode ms s.full (by omega) q.j
              unfold Lk.d seqT at hmd
              unfold seqT at hsq
              dsimp only at hmd hsq
              generalize (if (⟨seqG ms s.i s.a, seqG ms s.a n⟩ : Lk).okB = true then modeS (seqG ms s.i s.a) ((q.j : Int) + 1) 3 3 else 0) = z at hmd hsq
              simp (config := { maxSteps := 2000000 }) (implicitDefEqProofs := false) (disch := first | omega | assumption | (simp only [List.length_cons, List.length_nil, Nat.zero_add, Nat.reduceAdd]; done) | (simp only [IntKind.wrap_i64]; omega) | (simp only [List.length_replicate, List.length_set, List.length_append, List.length_cons, List.length_nil, List.length_take, List.length_drop, List.length_map] <;> omega) | fail) only [vop_move, vcallee_move, vop_load, vcallee_load, vop_binOp, vcallee_binOp, vcallee_value, vcal_fn, bin2_int, strip_pv, strip_ptr, strip_agg, strip_fn, optV_none, ev_tmp, ev_const, ev_func, ofConst_int, put_some, at_mk, fits_some, ↓look_cons, ↓vlook_t, ↓vlook_f, guard_none, ↓code_skip, ↓code_region, ↓code_seq, ↓code_block, ↓onNormal_normal, load_ptr, vld_agg, blk_zero, blk_succ, bin_int, int_add, evG_eq, ↓vrun_cons, ↓run1_some, ↓run2_none, ↓run2_some, ↓run3_some, ↓vcg_none, at_hp, List.map_nil, List.length_cons, List.length_nil, List.map_cons, List.map_nil, List.nil_append, List.append_nil, List.take_succ_cons, List.take_nil, List.drop_zero, Option.map_some, ↓reduceIte, Nat.reduceAdd, Nat.reduceLT, Nat.reduceBEq, Int.reduceLT, Int.reduceAdd, Int.reduceBEq, Nat.zero_add, true_and, Bool.true_and, Bool.cond_self, beq_self_eq_true, Nat.le_refl, Try.vt26, Try.vt28, wrap_i64_in, dec_t]
              refine vc_pure hmd rfl ?_
              by_cases h1 : s.i ≤ q.j ∧ q.j ≤ p.l
              · have h2 : 0 < z := hsq.2 ⟨h1.1, by omega⟩
                have h3 : (s.i : Int) ≤ q.j := by omega
                have h4 : (q.j : Int) ≤ (p.l : Int) := by omega
                simp (config := { maxSteps := 2000000 }) (implicitDefEqProofs := false) (disch := first | omega | assumption | (simp only [List.length_cons, List.length_nil, Nat.zero_add, Nat.reduceAdd]; done) | (simp only [IntKind.wrap_i64]; omega) | (simp only [List.length_replicate, List.length_set, List.length_append, List.length_cons, List.length_nil, List.length_take, List.length_drop, List.length_map] <;> omega) | fail) only [vop_move, vcallee_move, vop_assign, vcallee_assign, vop_pick, vcallee_pick, vop_binOp, vcallee_binOp, bin2_tmp, bin2_int, vpick_bool, strip_pv, strip_opt, vstr_true, optV_none, optV_some, pickV_bool, ev_tmp, ev_const, ofConst_int, ofConst_bool, put_some, at_mk, fits_some, ↓look_cons, ↓vlook_t, ↓vlook_f, guard_none, guard_some, vgof_bool, ↓vrun_nil, ↓code_skip, ↓code_region, ↓onNormal_normal, ↓onBlock_normal, bin_int, int_add, int_leq, int_gtr, int_geq, evG_eq, ↓vrun_cons, ↓run1_some, ↓run2_none, ↓run3_some, ↓runK_eq, ↓code_cond, ↓vtest_bool, ↓vbr_false, at_hp, bin_bool, vbb_neq, List.getElem?_cons_zero, List.getElem?_cons_succ, Option.map_some, Option.bind_some, Nat.reduceLT, Nat.reduceBEq, Int.reduceLT, Int.reduceBEq, true_and, or_true, Bool.not_true, Bool.or_true, Bool.true_and, cond_true, Bool.cond_self, beq_self_eq_true, Try.vkind4, wrap_i64_in, dec_t, h2, h3, h4]
                exact ⟨⟨q.j + 1, hjlt⟩, by show n - (q.j + 1) < n - q.j; omega, (by refine gc_of (keep := [0, 1]) rfl rfl rfl (by decide) ?_ ?_ <;> (repeat' apply And.intro) <;> first | trivial | rfl | exact ⟨_, rfl, rfl, rfl, .inl ⟨rfl, rfl⟩⟩ | exact ⟨_, rfl, rfl, rfl, .inl ⟨cells_nums _ _ _, rfl⟩⟩ | exact ⟨_, rfl, rfl, rfl, .inl ⟨pvs_nums _ _, rfl⟩⟩ | exact ⟨_, rfl, rfl, rfl, .inr ⟨rfl, rfl⟩⟩)⟩
              · have h2 : ¬ 0 < z := fun h => h1 ⟨(hsq.1 h).1, by have := (hsq.1 h).2; omega⟩
                by_cases h3 : (s.i : Int) ≤ q.j
                · have h4 : ¬ (q.j : Int) ≤ (p.l : Int) := by omega
                  simp (config := { maxSteps := 2000000 }) (implicitDefEqProofs := false) (disch := first | omega | assumption | (simp only [List.length_cons, List.length_nil, Nat.zero_add, Nat.reduceAdd]; done) | (simp only [IntKind.wrap_i64]; omega) | (simp only [List.length_replicate, List.length_set, List.length_append, List.length_cons, List.length_nil, List.length_take, List.length_drop, List.length_map] <;> omega) | fail) only [vop_move, vcallee_move, vop_assign, vcallee_assign, vop_pick, vcallee_pick, vop_binOp, vcallee_binOp, bin2_tmp, bin2_int, vpick_bool, strip_pv, strip_opt, vstr_true, optV_none, optV_some, pickV_bool, ev_tmp, ev_const, ofConst_int, ofConst_bool, put_some, at_mk, fits_some, ↓look_cons, ↓vlook_t, ↓vlook_f, guard_none, guard_some, vgof_bool, ↓vrun_nil, ↓code_skip, ↓code_region, ↓onNormal_normal, ↓onBlock_normal, bin_int, int_add, int_leq, int_gtr, int_geq, evG_eq, ↓vrun_cons, ↓run1_some, ↓run2_none, ↓run3_some, ↓runK_eq, ↓code_cond, ↓vtest_bool, ↓vbr_false, at_hp, bin_bool, vbb_neq, List.getElem?_cons_zero, List.getElem?_cons_succ, Option.map_some, Option.bind_some, Nat.reduceLT, Nat.reduceBEq, Int.reduceLT, Int.reduceBEq, true_and, or_true, Bool.not_true, Bool.or_true, Bool.true_and, cond_true, Bool.cond_self, beq_self_eq_true, Try.vkind4, wrap_i64_in, dec_t, h2, h3, h4]
                  exact ⟨⟨q.j + 1, hjlt⟩, by show n - (q.j + 1) < n - q.j; omega, (by refine gc_of (keep := [0, 1]) rfl rfl rfl (by decide) ?_ ?_ <;> (repeat' apply And.intro) <;> first | trivial | rfl | exact ⟨_, rfl, rfl, rfl, .inl ⟨rfl, rfl⟩⟩ | exact ⟨_, rfl, rfl, rfl, .inl ⟨cells_nums _ _ _, rfl⟩⟩ | exact ⟨_, rfl, rfl, rfl, .inl ⟨pvs_nums _ _, rfl⟩⟩ | exact ⟨_, rfl, rfl, rfl, .inr ⟨rfl, rfl⟩⟩)⟩
                · simp (config := { maxSteps := 2000000 }) (implicitDefEqProofs := false) (disch := first | omega | assumption | (simp only [List.length_cons, List.length_nil, Nat.zero_add, Nat.reduceAdd]; done) | (simp only [IntKind.wrap_i64]; omega) | (simp only [List.length_replicate, List.length_set, List.length_append, List.length_cons, List.length_nil, List.length_take, List.length_drop, List.length_map] <;> omega) | fail) only [vop_move, vcallee_move, vop_assign, vcallee_assign, vop_pick, vcallee_pick, vop_binOp, vcallee_binOp, bin2_tmp, bin2_int, vpick_bool, strip_pv, strip_opt, vstr_true, vstr_false, optV_none, optV_some, pickV_bool, ev_tmp, ev_const, ofConst_int, ofConst_bool, put_some, at_mk, fits_some, ↓look_cons, ↓vlook_t, ↓vlook_f, guard_none, guard_some, vgof_bool, ↓vrun_nil, ↓code_skip, ↓code_region, ↓onNormal_normal, ↓onBlock_normal, bin_int, int_add, int_leq, int_gtr, int_geq, evG_eq, ↓vrun_cons, ↓run1_some, ↓run2_none, ↓run3_some, ↓runK_eq, ↓code_cond, ↓vtest_bool, ↓vbr_false, at_hp, bin_bool, vbb_neq, List.getElem?_cons_zero, List.getElem?_cons_succ, Option.map_some, Option.bind_some, Nat.reduceLT, Nat.reduceBEq, Int.reduceLT, Int.reduceBEq, decide_false, true_and, or_false, or_self, Bool.not_true, Bool.not_false, Bool.or_false, Bool.true_and, Bool.or_self, b_beq_t, cond_false, Bool.cond_self, beq_self_eq_true, Try.vkind4, wrap_i64_in, dec_t, h2, h3]
                  exact ⟨⟨q.j + 1, hjlt⟩, by show n - (q.j + 1) < n - q.j; omega, (by refine gc_of (keep := [0, 1]) rfl rfl rfl (by decide) ?_ ?_ <;> (repeat' apply And.intro) <;> first | trivial | rfl | exact ⟨_, rfl, rfl, rfl, .inl ⟨rfl, rfl⟩⟩ | exact ⟨_, rfl, rfl, rfl, .inl ⟨cells_nums _ _ _, rfl⟩⟩ | exact ⟨_, rfl, rfl, rfl, .inl ⟨pvs_nums _ _, rfl⟩⟩ | exact ⟨_, rfl, rfl, rfl, .inr ⟨rfl, rfl⟩⟩)⟩
            · obtain ⟨b, hb1, hb2⟩ := seq_rel ms s.full hlt (by omega)
              have hrl := release_v (seqT ms s.i s.a n) hsm ((s.i : Int) + 1)
              rw [hb2] at hrl
              unfold Lk.d seqT at hrl
              dsimp only at hrl
              simp (config := { maxSteps := 2000000 }) (implicitDefEqProofs := false) (disch := first | omega | assumption | (simp only [List.length_cons, List.length_nil, Nat.zero_add, Nat.reduceAdd]; done) | (simp only [IntKind.wrap_i64]; omega) | (simp only [List.length_replicate, List.length_set, List.length_append, List.length_cons, List.length_nil, List.length_take, List.length_drop, List.length_map] <;> omega) | fail) only [vop_move, vcallee_move, vop_load, vcallee_load, vop_binOp, vcallee_binOp, vcallee_value, vcal_fn, bin2_int, strip_pv, strip_ptr, strip_agg, strip_fn, optV_none, ev_tmp, ev_const, ev_func, ofConst_int, put_some, at_mk, fits_some, ↓look_cons, ↓vlook_t, ↓vlook_f, guard_none, ↓code_region, ↓code_exit, ↓onNormal_normal, ↓onNormal_exit, ↓onBlock_exit, load_ptr, vld_agg, blk_zero, bin_int, int_add, evG_eq, ↓vrun_cons, ↓run1_some, ↓run2_none, ↓run2_some, ↓run3_some, ↓vcg_none, at_hp, List.map_nil, List.length_cons, List.length_nil, List.map_cons, List.map_nil, List.nil_append, List.append_nil, List.take_succ_cons, List.take_nil, List.drop_zero, Option.map_some, ↓reduceIte, Nat.reduceAdd, Nat.reduceLT, Nat.reduceBEq, Int.reduceLT, Int.reduceAdd, Int.reduceBEq, Nat.zero_add, true_and, Bool.true_and, Bool.cond_self, beq_self_eq_true, Nat.le_refl, Try.vt26, wrap_i64_in, dec_t, dec_f]
              refine vc_pure hrl rfl ?_
              simp (config := { maxSteps := 2000000 }) (implicitDefEqProofs := false) (disch := first | omega | assumption | (simp only [List.length_cons, List.length_nil, Nat.zero_add, Nat.reduceAdd]; done) | (simp only [IntKind.wrap_i64]; omega) | (simp only [List.length_replicate, List.length_set, List.length_append, List.length_cons, List.length_nil, List.length_take, List.length_drop, List.length_map] <;> omega) | fail) only [vop_move, vcallee_move, vop_assign, vcallee_assign, vop_store, vcallee_store, vop_binOp, vcallee_binOp, bin2_int, strip_pv, strip_ptr, strip_agg, optV_none, ev_tmp, ev_const, ofConst_int, put_some, put_none, at_mk, fits_some, fits_none, ↓look_cons, ↓vlook_t, ↓vlook_f, guard_none, ↓vrun_nil, ↓code_region, ↓onNormal_normal, ↓onBlock_normal, store_ptr, vst_agg, blk_zero, set_zero, allOne_nil, allOne_cons, one_pv, bin_int, int_add, evG_eq, ↓vrun_cons, ↓run1_some, ↓run2_none, ↓run3_some, ↓runK_eq, at_hp, V.splice, List.length_cons, List.length_nil, List.nil_append, List.append_nil, List.take_zero, List.drop_succ_cons, List.drop_nil, Option.map_some, ↓reduceIte, Nat.reduceAdd, Nat.reduceLT, Nat.reduceBEq, Int.reduceLT, Int.reduceAdd, Int.reduceBEq, Nat.zero_add, true_and, and_self, Bool.true_and, Bool.and_self, cond_true, Bool.cond_self, beq_self_eq_true, Nat.le_refl, Try.vt26, wrap_i64_in, dec_t]
              exact ⟨⟨s.i + 1, hlt, b, hb1⟩, by show n - (s.i + 1) < n - s.i; omega, (by refine gc_of (keep := [0, 1]) rfl rfl rfl (by decide) ?_ ?_ <;> (repeat' apply And.intro) <;> first | trivial | rfl | exact ⟨_, rfl, rfl, rfl, .inl ⟨rfl, rfl⟩⟩ | exact ⟨_, rfl, rfl, rfl, .inl ⟨cells_nums _ _ _, rfl⟩⟩ | exact ⟨_, rfl, rfl, rfl, .inl ⟨pvs_nums _ _, rfl⟩⟩ | exact ⟨_, rfl, rfl, rfl, .inr ⟨rfl, rfl⟩⟩)⟩
      · have hxi : exB ms s.i = true := by
          simp only [beq_eq_false_iff_ne] at hb
          rw [tmod_n (by omega)] at hb
          exact decide_eq_true (by omega)
        have hla : s.i + 1 = s.a := full_last ms s.full hlt s.i (Nat.le_refl _) hlt (fun h => by rw [hxi] at h; cases h) (fun _ => rfl) (fun h => by rw [hxi] at h; cases h)
        simp (config := { maxSteps := 2000000 }) (implicitDefEqProofs := false) (disch := first | omega | assumption | (simp only [List.length_cons, List.length_nil, Nat.zero_add, Nat.reduceAdd]; done) | (simp only [IntKind.wrap_i64]; omega) | (simp only [List.length_replicate, List.length_set, List.length_append, List.length_cons, List.length_nil, List.length_take, List.length_drop, List.length_map] <;> omega) | fail) only [vop_assign, vcallee_assign, strip_pv, optV_none, ev_const, ofConst_int, put_some, at_mk, fits_some, guard_none, ↓vrun_nil, ↓code_skip, ↓code_region, ↓code_seq, ↓code_block, ↓code_loop, ↓onNormal_normal, evG_eq, ↓vrun_cons, ↓run1_some, ↓run2_none, ↓run3_some, Nat.reduceLT, Int.reduceLT, true_and, Bool.true_and, Bool.cond_self, dec_t]
        refine vloopW (fun q : OUp n => ⟨105, 0, [(12, .int .i64 q.j), (11, .int .i64 s.i), (10, .int .i64 s.i), (5, .ptr 1 0), (4, .int .i64 n), (3, .ptr 0 0), (0, .pv (.sl (fz encU ms)))], [⟨26, true, [.pv (.sl (fz encG (seqG ms s.i s.a))), .pv (.sl (fz encG (seqG ms s.a n)))]⟩, ⟨28, true, [.int .i64 3, .int .i64 3]⟩]⟩) (fun q => n - q.j) ⟨0, Nat.zero_le _⟩ (by exact (by refine gc_of (keep := [0, 1]) rfl rfl rfl (by decide) ?_ ?_ <;> (repeat' apply And.intro) <;> first | trivial | rfl | exact ⟨_, rfl, rfl, rfl, .inl ⟨rfl, rfl⟩⟩ | exact ⟨_, rfl, rfl, rfl, .inl ⟨cells_nums _ _ _, rfl⟩⟩ | exact ⟨_, rfl, rfl, rfl, .inl ⟨pvs_nums _ _, rfl⟩⟩ | exact ⟨_, rfl, rfl, rfl, .inr ⟨rfl, rfl⟩⟩)) ?_
        intro q
        have hj := q.hj
        have hsm : (seqT ms s.i s.a n).sm := by
          have := s.full.h1
          have := s.full.h2
          exact ⟨by show (seqG _ _ _).length ≤ _; rw [seqG_len]; omega, by show (seqG _ _ _).length ≤ _; rw [seqG_len]; omega⟩
        simp (config := { maxSteps := 2000000 }) (implicitDefEqProofs := false) (disch := first | omega | assumption | (simp only [List.length_cons, List.length_nil, Nat.zero_add, Nat.reduceAdd]; done) | (simp only [IntKind.wrap_i64]; omega) | (simp only [List.length_replicate, List.length_set, List.length_append, List.length_cons, List.length_nil, List.length_take, List.length_drop, List.length_map] <;> omega) | fail) only [vop_move, vcallee_move, vop_binOp, vcallee_binOp, bin2_tmp, strip_pv, optV_none, ev_tmp, put_some, at_mk, fits_some, ↓look_cons, ↓vlook_t, ↓vlook_f, guard_none, ↓vrun_nil, ↓code_region, ↓code_seq, ↓onNormal_normal, bin_int, int_lss, evG_eq, ↓vrun_cons, ↓run1_some, ↓run2_none, ↓run3_some, ↓code_cond, ↓vtest_bool, at_hp, Option.map_some, Nat.reduceLT, Nat.reduceBEq, Int.reduceLT, Int.reduceBEq, true_and, Bool.true_and, Bool.cond_self, beq_self_eq_true, dec_t]
        refine vbr_split (fun hd => ?_) (fun hd => ?_) <;> simp only [decide_eq_true_eq, decide_eq_false_iff_not, Bool.or_eq_true, Bool.and_eq_true, Bool.or_eq_false_iff, Bool.and_eq_false_imp, Bool.not_eq_true', Bool.not_eq_false', beq_iff_eq, beq_eq_false_iff_ne, bne_iff_ne, bne_eq_false_iff_eq, ne_eq] at hd
        · have hjlt : q.j < n := by omega
          have hmd := modeX_v (seqT ms s.i s.a n) hsm (q.j + 1) 3 3
          have hsq := seq_mode ms s.full (by omega) q.j
          unfold Lk.d seqT at hmd
          unfold seqT at hsq
          dsimp only at hmd hsq
          generalize (if (⟨seqG ms s.i s.a, seqG ms s.a n⟩ : Lk).okB = true then modeS (seqG ms s.i s.a) ((q.j : Int) + 1) 3 3 else 0) = z at hmd hsq
          simp (config := { maxSteps := 2000000 }) (implicitDefEqProofs := false) (disch := first | omega | assumption | (simp only [List.length_cons, List.length_nil, Nat.zero_add, Nat.reduceAdd]; done) | (simp only [IntKind.wrap_i64]; omega) | (simp only [List.length_replicate, List.length_set, List.length_append, List.length_cons, List.length_nil, List.length_take, List.length_drop, List.length_map] <;> omega) | fail) only [vop_move, vcallee_move, vop_load, vcallee_load, vop_binOp, vcallee_binOp, vcallee_value, vcal_fn, bin2_int, strip_pv, strip_ptr, strip_agg, strip_fn, optV_none, ev_tmp, ev_const, ev_func, ofConst_int, put_some, at_mk, fits_some, ↓look_cons, ↓vlook_t, ↓vlook_f, guard_none, ↓code_skip, ↓code_region, ↓code_seq, ↓code_block, ↓onNormal_normal, load_ptr, vld_agg, blk_zero, blk_succ, bin_int, int_add, evG_eq, ↓vrun_cons, ↓run1_some, ↓run2_none, ↓run2_some, ↓run3_some, ↓vcg_none, at_hp, List.map_nil, List.length_cons, List.length_nil, List.map_cons, List.map_nil, List.nil_append, List.append_nil, List.take_succ_cons, List.take_nil, List.drop_zero, Option.map_some, ↓reduceIte, Nat.reduceAdd, Nat.reduceLT, Nat.reduceBEq, Int.reduceLT, Int.reduceAdd, Int.reduceBEq, Nat.zero_add, true_and, Bool.true_and, Bool.cond_self, beq_self_eq_true, Nat.le_refl, Try.vt26, Try.vt28, wrap_i64_in, dec_t]
          refine vc_pure hmd rfl ?_
          by_cases h1 : s.i ≤ q.j ∧ q.j ≤ s.i
          · have h2 : 0 < z := hsq.2 ⟨h1.1, by omega⟩
            have h3 : (s.i : Int) ≤ q.j := by omega
            have h4 : (q.j : Int) ≤ (s.i : Int) := by omega
            simp (config := { maxSteps := 2000000 }) (implicitDefEqProofs := false) (disch := first | omega | assumption | (simp only [List.length_cons, List.length_nil, Nat.zero_add, Nat.reduceAdd]; done) | (simp only [IntKind.wrap_i64]; omega) | (simp only [List.length_replicate, List.length_set, List.length_append, List.length_cons, List.length_nil, List.length_take, List.length_drop, List.length_map] <;> omega) | fail) only [vop_move, vcallee_move, vop_assign, vcallee_assign, vop_pick, vcallee_pick, vop_binOp, vcallee_binOp, bin2_tmp, bin2_int, vpick_bool, strip_pv, strip_opt, vstr_true, optV_none, optV_some, pickV_bool, ev_tmp, ev_const, ofConst_int, ofConst_bool, put_some, at_mk, fits_some, ↓look_cons, ↓vlook_t, ↓vlook_f, guard_none, guard_some, vgof_bool, ↓vrun_nil, ↓code_skip, ↓code_region, ↓onNormal_normal, ↓onBlock_normal, bin_int, int_add, int_leq, int_gtr, int_geq, evG_eq, ↓vrun_cons, ↓run1_some, ↓run2_none, ↓run3_some, ↓runK_eq, ↓code_cond, ↓vtest_bool, ↓vbr_false, at_hp, bin_bool, vbb_neq, List.getElem?_cons_zero, List.getElem?_cons_succ, Option.map_some, Option.bind_some, Nat.reduceLT, Nat.reduceBEq, Int.reduceLT, Int.reduceBEq, true_and, or_true, Bool.not_true, Bool.or_true, Bool.true_and, cond_true, Bool.cond_self, beq_self_eq_true, Try.vkind4, wrap_i64_in, dec_t, h2, h3, h4]
            exact ⟨⟨q.j + 1, hjlt⟩, by show n - (q.j + 1) < n - q.j; omega, (by refine gc_of (keep := [0, 1]) rfl rfl rfl (by decide) ?_ ?_ <;> (repeat' apply And.intro) <;> first | trivial | rfl | exact ⟨_, rfl, rfl, rfl, .inl ⟨rfl, rfl⟩⟩ | exact ⟨_, rfl, rfl, rfl, .inl ⟨cells_nums _ _ _, rfl⟩⟩ | exact ⟨_, rfl, rfl, rfl, .inl ⟨pvs_nums _ _, rfl⟩⟩ | exact ⟨_, rfl, rfl, rfl, .inr ⟨rfl, rfl⟩⟩)⟩
          · have h2 : ¬ 0 < z := fun h => h1 ⟨(hsq.1 h).1, by have := (hsq.1 h).2; omega⟩
            by_cases h3 : (s.i : Int) ≤ q.j
            · have h4 : ¬ (q.j : Int) ≤ (s.i : Int) := by omega
              simp (config := { maxSteps := 2000000 }) (implicitDefEqProofs := false) (disch := first | omega | assumption | (simp only [List.length_cons, List.length_nil, Nat.zero_add, Nat.reduceAdd]; done) | (simp only [IntKind.wrap_i64]; omega) | (simp only [List.length_replicate, List.length_set, List.length_append, List.length_cons, List.length_nil, List.length_take, List.length_drop, List.length_map] <;> omega) | fail) only [vop_move, vcallee_move, vop_assign, vcallee_assign, vop_pick, vcallee_pick, vop_binOp, vcallee_binOp, bin2_tmp, bin2_int, vpick_bool, strip_pv, strip_opt, vstr_true, optV_none, optV_some, pickV_bool, ev_tmp, ev_const, ofConst_int, ofConst_bool, put_some, at_mk, fits_some, ↓look_cons, ↓vlook_t, ↓vlook_f, guard_none, guard_some, vgof_bool, ↓vrun_nil, ↓code_skip, ↓code_region, ↓onNormal_normal, ↓onBlock_normal, bin_int, int_add, int_leq, int_gtr, int_geq, evG_eq, ↓vrun_cons, ↓run1_some, ↓run2_none, ↓run3_some, ↓runK_eq, ↓code_cond, ↓vtest_bool, ↓vbr_false, at_hp, bin_bool, vbb_neq, List.getElem?_cons_zero, List.getElem?_cons_succ, Option.map_some, Option.bind_some, Nat.reduceLT, Nat.reduceBEq, Int.reduceLT, Int.reduceBEq, decide_false, true_and, or_true, Bool.not_true, Bool.or_true, Bool.true_and, Bool.cond_self, beq_self_eq_true, Try.vkind4, wrap_i64_in, dec_t, h2, h3, h4]
              exact ⟨⟨q.j + 1, hjlt⟩, by show n - (q.j + 1) < n - q.j; omega, (by refine gc_of (keep := [0, 1]) rfl rfl rfl (by decide) ?_ ?_ <;> (repeat' apply And.intro) <;> first | trivial | rfl | exact ⟨_, rfl, rfl, rfl, .inl ⟨rfl, rfl⟩⟩ | exact ⟨_, rfl, rfl, rfl, .inl ⟨cells_nums _ _ _, rfl⟩⟩ | exact ⟨_, rfl, rfl, rfl, .inl ⟨pvs_nums _ _, rfl⟩⟩ | exact ⟨_, rfl, rfl, rfl, .inr ⟨rfl, rfl⟩⟩)⟩
            · simp (config := { maxSteps := 2000000 }) (implicitDefEqProofs := false) (disch := first | omega | assumption | (simp only [List.length_cons, List.length_nil, Nat.zero_add, Nat.reduceAdd]; done) | (simp only [IntKind.wrap_i64]; omega) | (simp only [List.length_replicate, List.length_set, List.length_append, List.length_cons, List.length_nil, List.length_take, List.length_drop, List.length_map] <;> omega) | fail) only [vop_move, vcallee_move, vop_assign, vcallee_assign, vop_pick, vcallee_pick, vop_binOp, vcallee_binOp, bin2_tmp, bin2_int, vpick_bool, strip_pv, strip_opt, vstr_true, vstr_false, optV_none, optV_some, pickV_bool, ev_tmp, ev_const, ofConst_int, ofConst_bool, put_some, at_mk, fits_some, ↓look_cons, ↓vlook_t, ↓vlook_f, guard_none, guard_some, vgof_bool, ↓vrun_nil, ↓code_skip, ↓code_region, ↓onNormal_normal, ↓onBlock_normal, bin_int, int_add, int_leq, int_gtr, int_geq, evG_eq, ↓vrun_cons, ↓run1_some, ↓run2_none, ↓run3_some, ↓runK_eq, ↓code_cond, ↓vtest_bool, ↓vbr_false, at_hp, bin_bool, vbb_neq, List.getElem?_cons_zero, List.getElem?_cons_succ, Option.map_some, Option.bind_some, Nat.reduceLT, Nat.reduceBEq, Int.reduceLT, Int.reduceBEq, decide_false, true_and, or_false, or_self, Bool.not_true, Bool.not_false, Bool.or_false, Bool.true_and, Bool.or_self, b_beq_t, cond_false, Bool.cond_self, beq_self_eq_true, Try.vkind4, wrap_i64_in, dec_t, h2, h3]
              exact ⟨⟨q.j + 1, hjlt⟩, by show n - (q.j + 1) < n - q.j; omega, (by refine gc_of (keep := [0, 1]) rfl rfl rfl (by decide) ?_ ?_ <;> (repeat' apply And.intro) <;> first | trivial | rfl | exact ⟨_, rfl, rfl, rfl, .inl ⟨rfl, rfl⟩⟩ | exact ⟨_, rfl, rfl, rfl, .inl ⟨cells_nums _ _ _, rfl⟩⟩ | exact ⟨_, rfl, rfl, rfl, .inl ⟨pvs_nums _ _, rfl⟩⟩ | exact ⟨_, rfl, rfl, rfl, .inr ⟨rfl, rfl⟩⟩)⟩
        · obtain ⟨b, hb1, hb2⟩ := seq_rel ms s.full hlt (by omega)
          have hrl := release_v (seqT ms s.i s.a n) hsm ((s.i : Int) + 1)
          rw [hb2] at hrl
          unfold Lk.d seqT at hrl
          dsimp only at hrl
          simp (config := { maxSteps := 2000000 }) (implicitDefEqProofs := false) (disch := first | omega | assumption | (simp only [List.length_cons, List.length_nil, Nat.zero_add, Nat.reduceAdd]; done) | (simp only [IntKind.wrap_i64]; omega) | (simp only [List.length_replicate, List.length_set, List.length_append, List.length_cons, List.length_nil, List.length_take, List.length_drop, List.length_map] <;> omega) | fail) only [vop_move, vcallee_move, vop_load, vcallee_load, vop_binOp, vcallee_binOp, vcallee_value, vcal_fn, bin2_int, strip_pv, strip_ptr, strip_agg, strip_fn, optV_none, ev_tmp, ev_const, ev_func, ofConst_int, put_some, at_mk, fits_some, ↓look_cons, ↓vlook_t, ↓vlook_f, guard_none, ↓code_region, ↓code_exit, ↓onNormal_normal, ↓onNormal_exit, ↓onBlock_exit, load_ptr, vld_agg, blk_zero, bin_int, int_add, evG_eq, ↓vrun_cons, ↓run1_some, ↓run2_none, ↓run2_some, ↓run3_some, ↓vcg_none, at_hp, List.map_nil, List.length_cons, List.length_nil, List.map_cons, List.map_nil, List.nil_append, List.append_nil, List.take_succ_cons, List.take_nil, List.drop_zero, Option.map_some, ↓reduceIte, Nat.reduceAdd, Nat.reduceLT, Nat.reduceBEq, Int.reduceLT, Int.reduceAdd, Int.reduceBEq, Nat.zero_add, true_and, Bool.true_and, Bool.cond_self, beq_self_eq_true, Nat.le_refl, Try.vt26, wrap_i64_in, dec_t, dec_f]
          refine vc_pure hrl rfl ?_
          simp (config := { maxSteps := 2000000 }) (implicitDefEqProofs := false) (disch := first | omega | assumption | (simp only [List.length_cons, List.length_nil, Nat.zero_add, Nat.reduceAdd]; done) | (simp only [IntKind.wrap_i64]; omega) | (simp only [List.length_replicate, List.length_set, List.length_append, List.length_cons, List.length_nil, List.length_take, List.length_drop, List.length_map] <;> omega) | fail) only [vop_move, vcallee_move, vop_assign, vcallee_assign, vop_store, vcallee_store, vop_binOp, vcallee_binOp, bin2_int, strip_pv, strip_ptr, strip_agg, optV_none, ev_tmp, ev_const, ofConst_int, put_some, put_none, at_mk, fits_some, fits_none, ↓look_cons, ↓vlook_t, ↓vlook_f, guard_none, ↓vrun_nil, ↓code_region, ↓onNormal_normal, ↓onBlock_normal, store_ptr, vst_agg, blk_zero, set_zero, allOne_nil, allOne_cons, one_pv, bin_int, int_add, evG_eq, ↓vrun_cons, ↓run1_some, ↓run2_none, ↓run3_some, ↓runK_eq, at_hp, V.splice, List.length_cons, List.length_nil, List.nil_append, List.append_nil, List.take_zero, List.drop_succ_cons, List.drop_nil, Option.map_some, ↓reduceIte, Nat.reduceAdd, Nat.reduceLT, Nat.reduceBEq, Int.reduceLT, Int.reduceAdd, Int.reduceBEq, Nat.zero_add, true_and, and_self, Bool.true_and, Bool.and_self, cond_true, Bool.cond_self, beq_self_eq_true, Nat.le_refl, Try.vt26, wrap_i64_in, dec_t]
          exact ⟨⟨s.i + 1, hlt, b, hb1⟩, by show n - (s.i + 1) < n - s.i; omega, (by refine gc_of (keep := [0, 1]) rfl rfl rfl (by decide) ?_ ?_ <;> (repeat' apply And.intro) <;> first | trivial | rfl | exact ⟨_, rfl, rfl, rfl, .inl ⟨rfl, rfl⟩⟩ | exact ⟨_, rfl, rfl, rfl, .inl ⟨cells_nums _ _ _, rfl⟩⟩ | exact ⟨_, rfl, rfl, rfl, .inl ⟨pvs_nums _ _, rfl⟩⟩ | exact ⟨_, rfl, rfl, rfl, .inr ⟨rfl, rfl⟩⟩)⟩
    · simp (config := { maxSteps := 2000000 }) (implicitDefEqProofs := false) (disch := first | omega | assumption | (simp only [List.length_cons, List.length_nil, Nat.zero_add, Nat.reduceAdd]; done) | (simp only [IntKind.wrap_i64]; omega) | (simp only [List.length_replicate, List.length_set, List.length_append, List.length_cons, List.length_nil, List.length_take, List.length_drop, List.length_map] <;> omega) | fail) only [vop_move, vcallee_move, vop_assign, vcallee_assign, vop_pick, vcallee_pick, vop_load, vcallee_load, vop_binOp, vcallee_binOp, vop_fieldAddr, vcallee_fieldAddr, vop_builtin, vcallee_builtin, bin2_int, vpick_bool, strip_pv, strip_ptr, strip_opt, strip_vstr, vstr_true, optV_none, optV_some, pickV_bool, ev_tmp, ev_const, ofConst_int, ofConst_bool, put_some, at_mk, fits_some, ↓look_cons, ↓vlook_t, ↓vlook_f, guard_none, guard_some, vgof_bool, ↓vrun_nil, ↓code_region, ↓code_seq, ↓code_exit, ↓code_ret, ↓onNormal_normal, ↓onNormal_exit, ↓onBlock_exit, frz_pv, frzHeap_zero, res_one, vres_tmp, load_ptr, vld_one, blk_zero, faddr_ptr, vfap_some, bin_int, int_eql, len_sl, vlk_sl, bi_len, evG_eq, ↓vrun_cons, ↓run1_some, ↓run2_none, ↓run3_some, ↓vpost_ret, vfin_some, vfin2_some, at_hp, List.map_nil, List.getElem?_cons_zero, List.getElem?_cons_succ, List.map_cons, List.map_nil, Option.map_some, Option.bind_some, ↓reduceIte, reduceCtorEq, Nat.reduceLT, Nat.reduceBEq, Int.reduceLT, Int.reduceBEq, Nat.zero_add, Nat.add_zero, true_and, or_true, false_or, Bool.not_true, Bool.or_true, Bool.false_or, Bool.true_and, Bool.not_or_self, b_beq_t, Bool.cond_self, Bool.cond_false_right, beq_self_eq_true, fz_len, Try.vt24, Try.vkind24, Try.vfield26x0, Try.vfield26x1, dec_t, dec_f, Ret, DV.nums]
      have h1 := s.full.h1
      have h2 := s.full.h2
      rw [seqG_len, seqG_len, show s.a - s.i = 0 by omega, show n - s.a = 0 by omega]
      rfl
end Go.Proofs.Ytjiaadkncpajnaa
