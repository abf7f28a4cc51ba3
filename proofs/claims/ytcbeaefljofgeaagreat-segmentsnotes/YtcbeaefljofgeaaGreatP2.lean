/-
  Contracts of functions and plain laws. No condition.
-/
import Derived.Test.YtcbeaefljofgeaaGreatP1
import Derived.Test.YtcbeaefljofgeaaGreatV3
set_option linter.unusedSimpArgs false
set_option linter.unusedVariables false
set_option maxRecDepth 100000
set_option maxHeartbeats 8000000
namespace Go.Proofs.YtcbeaefljofgeaaGreat
open Go.V Go
open Tryz (prog)
section
attribute [local go_sem] iteLe
def Fm.clr (f : Fm) : Fm := ⟨f.pg, f.dirty, f.rc, false⟩
def SameF (l m : List Fm) : Prop := m.map Fm.clr = l.map Fm.clr
theorem getD_clr (l : List Fm) (i : Nat) : (l.map Fm.clr).getD i Fm0 = (l.getD i Fm0).clr := by
  rw [List.getD_eq_getElem?_getD, List.getD_eq_getElem?_getD, List.getElem?_map]; cases l[i]? <;> rfl
theorem frC_clr (l : List Fm) (i : Nat) : frC (l.map Fm.clr) i = frC l i := by
  have h : dupC (l.map Fm.clr) i = dupC l i := by funext k; simp only [dupC, getD_clr]; rfl
  simp only [frC, h, getD_clr]; rfl
theorem SameF.len {l m : List Fm} (h : SameF l m) : m.length = l.length := by have := congrArg List.length h; simpa using this
theorem SameF.refl (l : List Fm) : SameF l l := rfl
theorem SameF.trans {a b c : List Fm} (h : SameF a b) (g : SameF b c) : SameF a c := Eq.trans (b := b.map Fm.clr) g h
theorem SameF.at_ {l m : List Fm} (h : SameF l m) (i : Nat) : (m.getD i Fm0).clr = (l.getD i Fm0).clr := by
  rw [← getD_clr, ← getD_clr, show m.map Fm.clr = l.map Fm.clr from h]
theorem SameF.frC {l m : List Fm} (h : SameF l m) : frC m = frC l := by
  funext i; rw [← frC_clr m, ← frC_clr l, show m.map Fm.clr = l.map Fm.clr from h]
theorem SameF.plB {p q : Pl} (h : SameF p.fs q.fs) (hs : q.size = p.size) (hh : 0 ≤ q.hand ∧ q.hand ≤ max 0 ((p.fs.length : Int) - 1)) (hp : plB p = true) : plB q = true := by
  have h1 := plB_hd hp
  simp only [Pl.hd] at h1
  have hl := h.len
  unfold Proofs.YtcbeaefljofgeaaGreat.plB at hp ⊢
  rw [h.frC, hl, decide_eq_true (by simp only [Pl.hd]; omega)]
  simp only [Bool.and_eq_true] at hp
  simpa using hp.2
theorem idF_clr (l : List Fm) (a : Int) : idF (l.map Fm.clr) a = idF l a := by
  unfold idF idxP
  rw [List.any_map, List.findIdx_map]; rfl
theorem SameF.idF {l m : List Fm} (h : SameF l m) (a : Int) : idF m a = idF l a := by
  rw [← idF_clr m, ← idF_clr l, show m.map Fm.clr = l.map Fm.clr from h]
theorem SameF.set (l : List Fm) (i : Nat) (b : Bool) : SameF l (l.set i ⟨(l.getD i Fm0).pg, (l.getD i Fm0).dirty, (l.getD i Fm0).rc, b⟩) := by
  unfold SameF
  rw [List.map_set]
  rcases Nat.lt_or_ge i l.length with h | h
  · have : (⟨(l.getD i Fm0).pg, (l.getD i Fm0).dirty, (l.getD i Fm0).rc, b⟩ : Fm).clr = (l.map Fm.clr)[i]'(by simpa using h) := by
      rw [getD_eq l i h, List.getElem_map]; rfl
    rw [this, List.set_getElem_self]
  · rw [List.set_eq_of_length_le (by simpa using h)]
def usedN (l : List Fm) : Nat := l.countP (·.used)
theorem usedN_set (l : List Fm) (i : Nat) (h : i < l.length) (hu : (l.getD i Fm0).used = true) : usedN (l.set i ⟨(l.getD i Fm0).pg, (l.getD i Fm0).dirty, (l.getD i Fm0).rc, false⟩) < usedN l := by
  unfold usedN
  rw [List.countP_set h]
  rw [getD_eq l i h] at *
  have : 0 < l.countP (·.used) := List.countP_pos_iff.2 ⟨l[i], List.getElem_mem h, hu⟩
  simp only [hu, if_true]
  simp
  omega
structure Vic (p : Pl) where
  q : Pl
  ok : plB q = true
  sm : SameF p.fs q.fs
  sz : q.size = p.size
  ne : 0 < q.fs.length
def vicQ (p : Pl) (a : Pl × Int × Int) : Prop := (a.2.2 = 0 → plB p = true ∧ plB a.1 = true ∧ SameF p.fs a.1.fs ∧ a.1.size = p.size ∧ ∃ i, i < a.1.fs.length ∧ a.2.1 = (a.1.fs.getD i Fm0).pg.id) ∧ (plB p = true → 0 < p.fs.length → a.2.2 = 0) ∧ a.1.fs.length ≤ p.fs.length
def vicD (a : Pl × Int × Int) : DV := .tup [.agg a.1.d, .int .i64 a.2.1, .int .i64 a.2.2]
theorem rpvic_v (p : Pl) (hl : p.fs.length ≤ 100000) : VCalls prog 214 [.agg p.d] [] (RetS vicD (vicQ p)) := by
  refine dk Tryz.func214 ?_
  have c1 := rplvalid_v p (by omega)
  cases hb : plB p
  · rw [hb] at c1
    (unfold Tryz.f214; refine rn trivial ?_)
    refine rn F ?_
    repeat' (first
      | with_reducible exact ⟨⟩
      | refine vp F (c1) ?_)
    all_goals exact ⟨rfl, rfl, (Pl0, 0, 15), rfl, by simp [vicQ, hb, Pl0]⟩
  · rw [hb] at c1
    (unfold Tryz.f214; refine rn trivial ?_)
    refine rn F ?_
    repeat' (first
      | with_reducible exact ⟨⟩
      | (refine sB F ?_ ?_ <;> intro hZ)
      | refine vp F (c1) ?_)
    · exact ⟨rfl, rfl, (Pl0, 0, 18), rfl, fun h => absurd h (by decide), fun _ h => by omega, Nat.zero_le _⟩
    refine vloopW (fun s : Vic p => ⟨51, 0, [(2, .ptr 1 0), (1, .ptr 0 0)], [⟨73, true, s.q.d⟩, ⟨73, true, [.int .i64 0, .pv (.slc []), .int .i64 0]⟩]⟩) (fun s => usedN s.q.fs) ⟨p, hb, SameF.refl _, rfl, by omega⟩ (gc [0, 1]) ?_
    intro s
    obtain ⟨q, ok, sm, sz, ne⟩ := s
    obtain ⟨qz, l, hn⟩ := q
    dsimp only at ok sm sz ne ⊢
    have hh := plB_hd ok
    have hlen := sm.len
    simp only [Pl.hd] at hh
    obtain ⟨i, rfl⟩ : ∃ i : Nat, hn = i := ⟨hn.toNat, by omega⟩
    have hi : i < l.length := by omega
    have hg := fzF_at l i hi
    have c2 := fun f => rpset_v ⟨qz, l, i⟩ (by dsimp only; omega) i hi f
    have hst := SameF.set l i false
    have hus := usedN_set l i hi
    have hmod : ((i : Int) + 1).tmod (l.length : Int) = ((i + 1) % l.length : Nat) := Int.ofNat_tmod (i + 1) l.length
    have hml : (i + 1) % l.length < l.length := Nat.mod_lt _ ne
    have hle : ∀ f, (l.set i f).length = l.length := fun f => List.length_set
    generalize hf : l.getD i Fm0 = f at *
    have F := (And.intro @hg @hle)
    refine rn F ?_
    repeat' (first
      | with_reducible exact ⟨⟩
      | (refine sB F ?_ ?_ <;> intro hZ)
      | refine vp F (c2 ⟨_, _, _, _⟩) ?_
      | (refine vspine (id := 10) [0, 1, 2, 3, 4, 5, 6, 7, 8] [⟨[], [], 9, [1, 2, 3, 4, 5, 6, 7, 8], []⟩, ⟨[], [], 10, [], []⟩, ⟨[], [], 11, [], []⟩] (by kernel_rfl) (by kernel_rfl) ?_; refine rn F ?_))
    · rw [hmod]
      refine ⟨⟨⟨qz, l.set i ⟨f.pg, f.dirty, f.rc, false⟩, ((i + 1) % l.length : Nat)⟩, (sm.trans hst).plB sz ?_ hb, sm.trans hst, sz, ?_⟩, hus (by assumption), (gc [0, 1])⟩
      · dsimp only at hlen ⊢; omega
      · rw [hle]; exact ne
    · exact ⟨rfl, rfl, (⟨qz, l, i⟩, f.pg.id, 0), rfl, fun _ => ⟨hb, ok, sm, sz, i, hi, by rw [hf]⟩, fun _ _ => rfl, by dsimp only at hlen ⊢; omega⟩
theorem rpdirty_v (p : Pl) (hl : p.fs.length ≤ 100000) : VCalls prog 150 [.agg p.d] [] (RetS (fun l : List Dt => .pv (.sl (fz encY l))) fun l => l.length ≤ 64) := by
  refine dk Tryz.func150 ?_
  have c1 := rplvalid_v p (by omega)
  have c2 := rffind_v p (by omega)
  generalize plB p = b at *
  (unfold Tryz.f150; refine rn trivial ?_)
  refine rn F ?_
  repeat' (first
    | with_reducible exact ⟨⟩
    | (refine sB F ?_ ?_ <;> intro hZ)
    | refine vp F (c1) ?_)
  · exact ⟨rfl, rfl, [], rfl, Nat.zero_le _⟩
  refine VLoop.nilOwn 3 180 3 rfl ?_
  refine rn trivial ?_
  refine vloopW (fun s : {s : Nat × List Dt // s.1 ≤ 64 ∧ s.2.length ≤ s.1} => ⟨45, 0, [(4, .int .i64 s.1.1), (3, .own 1 3 0 s.1.2.length), (1, .ptr 0 0)], [⟨73, true, p.d⟩, ⟨180, true, cells encY s.1.2⟩]⟩) (fun s => 64 - s.1.1) ⟨(0, []), by simp⟩ (gc [0, 1]) ?_
  rintro ⟨⟨i, out⟩, hi, ho⟩
  dsimp only at hi ho ⊢
  have c3 := c2 i
  rcases idF_cases p.fs i with h | ⟨j, hj, h, _⟩
  all_goals rw [h] at c3
  · skip
    refine rn F ?_
    repeat' (first
      | with_reducible exact ⟨⟩
      | (refine sB F ?_ ?_ <;> intro hZ)
      | refine vp F (c3) ?_)
    · exact ⟨⟨(i + 1, out), by dsimp only; omega, by dsimp only; omega⟩, by dsimp only; omega, (gc [0, 1])⟩
    · exact ⟨rfl, rfl, out, rfl, by omega⟩
  · have hg := fzF_at p.fs j hj
    have hb : (out.length + 1) * 24 ≤ 140737488355328 := by omega
    generalize p.fs.getD j Fm0 = f at *
    have F := (And.intro @hg @hb)
    refine rn F ?_
    repeat' (first
      | with_reducible exact ⟨⟩
      | (refine sB F ?_ ?_ <;> intro hZ)
      | refine vp F (c3) ?_
      | (refine vspine (id := 9) [0, 1, 2, 3, 4, 5, 6, 7, 8, 9, 10, 11, 12, 13, 14, 15] [⟨[16], [16], 17, [1, 2, 3, 4, 5, 6, 7, 8, 9, 10, 11, 12, 13, 14, 15], []⟩, ⟨[], [], 18, [], []⟩] (by kernel_rfl) (by kernel_rfl) ?_; refine rn F ?_))
    · exact ⟨⟨(i + 1, out ++ [⟨i, f.rc, f.pg.lsn⟩]), by dsimp only; omega, by simp; omega⟩, by dsimp only; omega, by dsimp only; rw [List.length_append]; exact (gc [0, 3])⟩
    · exact ⟨⟨(i + 1, out), by dsimp only; omega, by dsimp only; omega⟩, by dsimp only; omega, (gc [0, 1])⟩
    · exact ⟨rfl, rfl, out, rfl, by omega⟩
end
theorem rlast_v (x : Lg) (h1 : -1099511627776 ≤ x.f ∧ x.f ≤ 1099511627776) (h2 : x.es.length ≤ 1000000) : VCalls prog 30 [.agg x.c] [] (Ret (.int .i64 x.end_)) := by
  refine dd Tryz.func30 ?_
  unfold Lg.end_
  (unfold Tryz.f30; refine rn trivial ?_; try with_reducible exact ⟨⟩)
theorem lgB_end {x : Lg} (h : lgB x = true) : x.end_ ≤ 1099511627776 := by
  have hd := lgB_hd h
  unfold Lg.hd at hd
  unfold Lg.end_
  unfold lgB at h
  simp only [Bool.and_eq_true, List.all_eq_true] at h
  by_cases h0 : x.es.length = 0
  · omega
  · have := h.2 (x.es.length - 1) (List.mem_range.2 (by omega))
    unfold lgC at this
    simp only [Bool.and_eq_true, decide_eq_true_eq] at this
    obtain ⟨h3, h4⟩ := this
    generalize x.es.getD (x.es.length - 1) E0 = e at *
    unfold E.okB at h4
    simp only [Bool.and_eq_true, decide_eq_true_eq] at h4
    omega
theorem rlvalid_v (x : Lg) (hx : x.es.length ≤ 9223372036854775807) : VCalls prog 29 [.agg x.c] [] (Ret (.bool (lgB x))) := by
  refine dd Tryz.func29 ?_
  obtain ⟨f, es, d⟩ := x
  dsimp only at hx
  have c1 := rlast_v ⟨f, es, d⟩
  unfold Lg.end_ at c1
  dsimp only at c1
  have hB : lgB ⟨f, es, d⟩ = (decide (Lg.hd ⟨f, es, d⟩) && (List.range es.length).all (lgC ⟨f, es, d⟩)) := rfl
  have hH : Lg.hd ⟨f, es, d⟩ = (1 ≤ f ∧ f ≤ 1099511627776 ∧ es.length ≤ 4096 ∧ f - 1 ≤ d ∧ d ≤ f + es.length - 1) := rfl
  have hB' : Lg.hd ⟨f, es, d⟩ → lgB ⟨f, es, d⟩ = (List.range es.length).all (lgC ⟨f, es, d⟩) := fun h => by rw [hB, decide_eq_true h, Bool.true_and]
  have no : ¬ Lg.hd ⟨f, es, d⟩ → lgB ⟨f, es, d⟩ = false := fun h => by rw [hB, decide_eq_false h]; rfl
  have hlc : ∀ i, lgC ⟨f, es, d⟩ i = (decide ((es.getD i E0).lsn = f + i) && (es.getD i E0).okB) := fun _ => rfl
  generalize lgB ⟨f, es, d⟩ = b at *
  generalize lgC ⟨f, es, d⟩ = lc at *
  (unfold Tryz.f29; refine rn trivial ?_)
  refine rn F ?_
  repeat' (first
    | with_reducible exact ⟨⟩
    | (refine sG F ?_ ?_ <;> intro hZ)
    | (refine sB F ?_ ?_ <;> intro hZ)
    | refine vp F (c1 (by omega) (by omega)) ?_
    | (refine vspine (id := 1) [0, 1, 2, 3, 4, 5, 6, 7, 8, 9, 10, 11, 12, 13, 14, 15, 16, 17, 18, 19, 20, 21, 22, 23, 24, 25] [⟨[], [], 26, [0, 1, 2, 3, 4, 5, 6, 7, 8, 9, 10, 11, 12, 13, 14, 15, 16, 17, 18, 19, 20, 21, 23, 24], [27, 28]⟩] (by kernel_rfl) (by kernel_rfl) ?_; refine rn F ?_))
  all_goals first | (rw [no (by rw [hH]; omega)]) | skip
  refine vloopW (fun s : Okay es.length lc => ⟨60, 0, [(3, .int .i64 s.i), (1, .ptr 0 0)], [⟨28, true, Lg.c ⟨f, es, d⟩⟩]⟩) (fun s => es.length - s.i) (Okay.start _ _) (gc [0]) ?_
  intro s
  have hsi := s.hi
  have hg := fun h : s.i < es.length => fzE_g es s.i h
  have c2 := rvalid_v (es.getD s.i E0)
  have e := hlc s.i
  generalize (es.getD s.i E0).okB = ok at *
  have F := @hg
  refine rn F ?_
  repeat' (first
    | with_reducible exact ⟨⟩
    | (refine sG F ?_ ?_ <;> intro hZ)
    | (refine sB F ?_ ?_ <;> intro hZ)
    | refine vp F (c2) ?_
    | (refine vspine (id := 6) [0, 1, 2, 3, 4, 5, 6, 7, 8, 9, 10, 11, 12, 13, 14, 15, 16] [⟨[], [], 17, [0, 1, 2, 3, 4, 5, 6, 7, 8, 9, 10, 12, 13, 14, 15], [18, 19]⟩] (by kernel_rfl) (by kernel_rfl) ?_; refine rn F ?_))
  all_goals first
    | (exact congrArg DV.bool (s.no (by omega) (hB' (by rw [hH]; omega)) (by rw [e]; first | (rw [decide_eq_false (by omega)]; rfl) | simp_all)).symm)
    | (exact congrArg DV.bool (s.yes (by omega) (hB' (by rw [hH]; omega))).symm)
    | (exact ⟨s.next (by omega) (by rw [e]; simp_all), s.dec (by omega), (gc [0])⟩)
    | skip
section
attribute [local go_sem] lenBo allBo appBo slkBo srcBo frzBo app_Bo lenI allI appI slkI srcI frzI app_In
def Mz : Md := ⟨false, [], []⟩
def hitS (e : E) : Bool := decide (e.kind = 8) && blobS e.blob
def mlatN (es : List E) : Nat → Md × Int × Bool
  | 0 => (Mz, 0, false)
  | n + 1 => if hitS (es.getD n E0) = true then (rdS (es.getD n E0).blob, (es.getD n E0).lsn, true) else mlatN es n
def mlatS (x : Lg) : Md × Int × Bool := if lgB x = true then mlatN x.es x.es.length else (Mz, 0, false)
theorem mlatN_none {es : List E} : ∀ {n : Nat}, (∀ i, i < n → hitS (es.getD i E0) = false) → mlatN es n = (Mz, 0, false)
  | 0, _ => rfl
  | n + 1, h => by rw [mlatN, if_neg (by rw [h n (by omega)]; decide)]; exact mlatN_none fun i hi => h i (by omega)
theorem mlatN_hit {es : List E} {i : Nat} (hh : hitS (es.getD i E0) = true) : ∀ {n : Nat}, i < n → (∀ j, i < j → j < n → hitS (es.getD j E0) = false) → mlatN es n = (rdS (es.getD i E0).blob, (es.getD i E0).lsn, true)
  | n + 1, hi, h => by
    rw [mlatN]
    by_cases e : i = n
    · subst e; rw [if_pos hh]
    · rw [if_neg (by rw [h n (by omega) (by omega)]; decide)]; exact mlatN_hit hh (by omega) fun j h1 h2 => h j h1 (by omega)
theorem mblob_len {x : Lg} (h : lgB x = true) {i : Nat} (hi : i < x.es.length) (hk : (x.es.getD i E0).kind = 8) : (x.es.getD i E0).blob.length ≤ 8192 := by
  unfold lgB at h
  simp only [Bool.and_eq_true, List.all_eq_true, List.mem_range] at h
  have := h.2 i hi
  simp only [lgC, Bool.and_eq_true] at this
  have h2 := this.2
  generalize x.es.getD i E0 = e at *
  unfold E.okB at h2
  simp only [Bool.and_eq_true] at h2
  have h3 := h2.2
  unfold E.kindB at h3
  rw [hk] at h3
  simp at h3
  omega
@[go_sem] def mlaD (a : Md × Int × Bool) : DV := .tup [.agg a.1.c, .int .i64 a.2.1, .bool a.2.2]
structure mLk (es : List E) where
  k : Nat
  hk : k ≤ es.length
  he : mlatN es es.length = mlatN es k
theorem mrlatest_v (x : Lg) (hx : x.es.length ≤ 9223372036854775807) : VCalls prog 15 [.agg x.c] [] (Ret (mlaD (mlatS x))) := by
  refine dk Tryz.func15 ?_
  have c1 := rlvalid_v x hx
  have hd := @lgB_hd x
  simp only [Lg.hd] at hd
  have hbl := fun h i => @mblob_len x h i
  have e0 : mlatS x = if lgB x = true then mlatN x.es x.es.length else (Mz, 0, false) := rfl
  (unfold Tryz.f15; refine rn trivial ?_)
  cases hv : lgB x
  · rw [hv] at c1 e0
    rw [e0]
    refine rn F ?_
    repeat' (first
      | with_reducible exact ⟨⟩
      | refine vp F (c1) ?_)
    all_goals rfl
  rw [hv] at c1 e0
  rw [if_pos rfl] at e0
  rw [e0]
  replace hd := hd hv
  have hbl := fun i => hbl hv i
  obtain ⟨f, es, d⟩ := x
  dsimp only at hd hbl hx ⊢
  have hlen : es.length ≤ 4096 := hd.2.2.1
  refine rn F ?_
  repeat' (first
    | with_reducible exact ⟨⟩
    | refine vp F (c1) ?_)
  refine vloopW (fun s : mLk es => ⟨46, 0, [(5, .int .i64 ((s.k : Int) - 1)), (2, .ptr 1 0), (1, .ptr 0 0)], [⟨28, true, Lg.c ⟨f, es, d⟩⟩, ⟨34, true, [.bool false, .pv (.slc []), .pv (.slc [])]⟩]⟩) (fun s => s.k) ⟨es.length, Nat.le_refl _, rfl⟩ (gc [0, 1]) ?_
  rintro ⟨k, hk, he⟩
  dsimp only
  rw [he]
  by_cases hk0 : 0 < k
  rotate_left
  · obtain rfl : k = 0 := by omega
    (refine rn F ?_; try with_reducible exact ⟨⟩)
    all_goals rfl
  obtain ⟨i, rfl⟩ : ∃ i, k = i + 1 := ⟨k - 1, by omega⟩
  have e1 : ((i + 1 : Nat) : Int) - 1 = i := by omega
  have hg := fzE_g es i (by omega)
  have c2 := sparse_v (es.getD i E0).blob
  have hb8 := hbl i (by omega)
  by_cases h8 : (es.getD i E0).kind = 8
  rotate_left
  · have hno : mlatN es (i + 1) = mlatN es i := by rw [mlatN, if_neg (by unfold hitS; rw [decide_eq_false h8]; simp)]
    have F := (And.intro @e1 (And.intro @hg @h8))
    (refine rn F ?_; try with_reducible exact ⟨⟩)
    all_goals first | exact ⟨⟨i, by omega, he.trans hno⟩, by dsimp only; omega, (gc [0, 1])⟩ | skip
  have F := (And.intro @e1 (And.intro @hg @h8))
  refine rn F ?_
  repeat' (first
    | with_reducible exact ⟨⟩
    | (refine sB F ?_ ?_ <;> intro hZ)
    | (refine vc_S (c2 (Nat.le_trans (hb8 h8) (by decide))) rfl ?_; rintro ⟨r, ok⟩ hq; refine rn F ?_)
    | (refine vspine (id := 9) [0, 1, 2, 3, 4, 5, 6] [⟨[], [], 7, [1, 2, 3, 4, 5, 6], []⟩, ⟨[], [], 8, [], []⟩, ⟨[], [], 9, [], []⟩] (by kernel_rfl) (by kernel_rfl) ?_; refine rn F ?_))
  · have hh : hitS (es.getD i E0) = true := by
      have h1 := hq.1
      dsimp only at h1
      unfold hitS; rw [decide_eq_true h8, ← h1]; simpa using hZ
    have hr := hq.2 (by simpa using hZ)
    dsimp only at hr
    subst hr
    rw [mlatN, if_pos hh]
  · have hh : ¬ hitS (es.getD i E0) = true := by
      have h1 := hq.1
      dsimp only at h1
      unfold hitS; rw [decide_eq_true h8, ← h1]; simp [hZ]
    exact ⟨⟨i, by omega, he.trans (by rw [mlatN, if_neg hh])⟩, by dsimp only; omega, (gc [0, 1])⟩
theorem mback_v (es : List E) : VCalls prog 32 [.pv (.sl (fz encE es))] [] (fun r h' => r = .fn (.func 52) [] [.ptr 0 0] ∧ h' = [⟨26, true, [.pv (.sl (fz encE es))]⟩]) := by
  refine vcalls_keep (fn := Tryz.f32) Tryz.func32 rfl (by kernel_rfl) (by simp [Tryz.f32]) ?_
  (unfold Tryz.f32; refine rn trivial ?_; try with_reducible exact ⟨⟩)
theorem miter_v (es : List E) (hl : es.length ≤ 4096) {hp : Heap} {kb : Nat} (hkb : hp[kb]? = some ⟨26, true, [.pv (.sl (fz encE es))]⟩) : VDown prog 52 (.ptr kb 0) hp (fz encE es) := by
  refine viter8 Tryz.func52 rfl rfl rfl rfl rfl rfl rfl rfl rfl ?_ ?_ ?_ ?_ ?_ ?_ ?_ hkb
  · decide +kernel
  · intro i hi
    rw [fz_len] at hi
    rw [List.getD_eq_getElem?_getD, fz_getD encE es E0 i hi]
    rfl
  · intro l
    have hll := fz_len encE es
    (refine rn @hll ?_; try with_reducible exact ⟨⟩)
  · intro l k hk
    unfold itS
    by_cases h0 : 0 < k
    · have h0' : (0 : Int) ≤ (k : Int) - 1 := by omega
      rw [decide_eq_true h0]
      (refine rn @h0' ?_; try with_reducible exact ⟨⟩)
    · have h0' : ¬ (0 : Int) ≤ (k : Int) - 1 := by omega
      rw [decide_eq_false h0]
      (refine rn @h0' ?_; try with_reducible exact ⟨⟩)
  · intro l k h0 hk
    unfold itS
    rw [fz_len] at hk
    (refine rn trivial ?_; try with_reducible exact ⟨⟩)
  · intro l k h0 hk
    unfold itS
    rw [fz_len] at hk
    obtain ⟨i, rfl⟩ : ∃ i, k = i + 1 := ⟨k - 1, by omega⟩
    have e1 : ((i + 1 : Nat) : Int) - 1 = i := by omega
    have hg := fzE_g es i (by omega)
    have he : elemD (fz encE es) (i + 1 - 1) = .agg ((encE.enc (es.getD i E0)).map .pv) := by
      unfold elemD
      rw [Nat.add_sub_cancel, List.getD_eq_getElem?_getD, fz_getD encE es E0 i (by omega)]; rfl
    rw [he]
    refine rn (And.intro @e1 @hg) ?_
    rfl
  · intro k b
    (refine rn trivial ?_; try with_reducible exact ⟨⟩)
theorem reb_mk (a b : Nat) (tm : List (Nat × DV)) (hp : Heap) : (⟨a, b, tm, hp⟩ : St).reb = ⟨a, hp.length, tm, hp⟩ := rfl
attribute [go_sem] reb_mk
theorem mvc_back {es : List E} {hp : Heap} {K : DV → Heap → Prop} (hK : K (.fn (.func 52) [] [.ptr hp.length 0]) (hp ++ [⟨26, true, [.pv (.sl (fz encE es))]⟩])) : VCalls prog 32 [.pv (.sl (fz encE es))] hp K := by
  refine (VCalls.frame [] (by simp) rfl rfl (mback_v es) rfl rfl).mono ?_
  rintro r h2 ⟨r0, h', ⟨rfl, rfl⟩, -, rfl, rfl⟩
  have e0 : List.map (fun k => hp[k]?.getD default) (List.range hp.length) = hp := by
    apply List.ext_getElem (by simp)
    intro i h1 h2
    simp [h2]
  have e1 : behind hp [] [(⟨26, true, [.pv (.sl (fz encE es))]⟩ : Blk)] = hp ++ [⟨26, true, [.pv (.sl (fz encE es))]⟩] := by
    simp [behind, renB, DV.ren]
    try exact e0
  have e2 : DV.ren (back [] hp.length) (.fn (.func 52) [] [.ptr 0 0]) = .fn (.func 52) [] [.ptr hp.length 0] := by simp [DV.ren, DV.ren.go, back]
  rw [e1, e2]; exact hK
theorem mlatest_v (x : Lg) (hx : x.es.length ≤ 9223372036854775807) : VCalls prog 14 [.agg x.c] [] (Ret (mlaD (mlatS x))) := by
  refine vcalls_downK (fn := Tryz.f14) Tryz.func14 rfl (by kernel_rfl) (by simp [Tryz.f14]) ?_
  have c1 := jvalid_v x hx
  have hd := @lgB_hd x
  simp only [Lg.hd] at hd
  have hbl := fun h i => @mblob_len x h i
  have e0 : mlatS x = if lgB x = true then mlatN x.es x.es.length else (Mz, 0, false) := rfl
  refine VWp0.first ?_
  (unfold Tryz.f14; refine rn trivial ?_)
  refine VWp0.first ?_
  refine rn trivial ?_
  cases hv : lgB x
  · rw [hv] at c1 e0
    rw [e0]
    refine rn F ?_
    repeat' (first
      | with_reducible exact ⟨⟩
      | refine vp F (c1) ?_)
    all_goals rfl
  rw [hv] at c1 e0
  rw [if_pos rfl] at e0
  rw [e0]
  replace hd := hd hv
  have hbl := fun i => hbl hv i
  obtain ⟨f, es, d⟩ := x
  dsimp only at hd hbl hx ⊢
  have hlen : es.length ≤ 4096 := hd.2.2.1
  refine rn F ?_
  repeat' (first
    | with_reducible exact ⟨⟩
    | refine vp F (c1) ?_)
  refine VWp0.then (VWp0.first ?_)
  refine rn trivial ?_
  refine mvc_back ?_
  refine rn trivial ?_
  refine VWp0.block ?_
  refine VWp0.down (xs := fz encE es) (fn := Tryz.f52) rfl Tryz.func52 (by kernel_rfl) (by kernel_rfl) (miter_v es hlen rfl) (by show 16 < 32; decide) (by show 17 < 32; decide) ?_ (fun i => hitS (es.getD i E0))
    (fun i hp' => ∃ r, hp' = [⟨28, true, [.int .i64 f, .pv (.sl (fz encE es)), .int .i64 d]⟩, ⟨34, true, (rdS (es.getD i E0).blob).c⟩, ⟨3, true, [.int .i64 (es.getD i E0).lsn]⟩, ⟨4, true, [.bool true]⟩, ⟨26, true, [.pv (.sl (fz encE es))]⟩, ⟨41, true, (es.getD i E0).d⟩, ⟨34, true, Md.c r⟩]) (by kernel_rfl) (BodyOf.cut (K := 77) (by kernel_rfl) ?_ (by
      first
        | (repeat' constructor)
        | skip)) ?_ ?_ ?_
  · intro k B h
    rcases k with _ | _ | _ | _ | _ | k <;> simp at h <;> subst h <;> rfl
  · decide +kernel
  · intro i hi
    rw [fz_len] at hi
    have he : elemD (fz encE es) i = .agg (es.getD i E0).d := by
      unfold elemD
      rw [List.getD_eq_getElem?_getD, fz_getD encE es E0 i hi]; rfl
    rw [he]
    have c2 := sread_v (es.getD i E0).blob
    have hb8 := hbl i hi
    unfold downRound vcut1
    by_cases h8 : (es.getD i E0).kind = 8
    rotate_left
    · have hno : hitS (es.getD i E0) = false := by unfold hitS; rw [decide_eq_false h8]; rfl
      have F := @h8
      refine rn F ?_
      exact hno
    have F := @h8
    refine rn F ?_
    repeat' (first
      | with_reducible exact ⟨⟩
      | (refine sB F ?_ ?_ <;> intro hZ)
      | (refine vc_S (c2 (Nat.le_trans (hb8 h8) (by decide))) rfl ?_; rintro ⟨r, ok⟩ hq; refine rn F ?_))
    · have h1 := hq.1
      dsimp only at h1
      have hr := hq.2 (by simpa using hZ)
      dsimp only at hr
      subst hr
      refine ⟨?_, _, rfl⟩
      unfold hitS; rw [decide_eq_true h8, ← h1]; simpa using hZ
    · have h1 := hq.1
      dsimp only at h1
      unfold hitS; rw [decide_eq_true h8, ← h1]; simp [hZ]
  · intro hno
    rw [mlatN_none (fun i hi => hno i (by rw [fz_len]; exact hi))]
    refine VWpE.plain ?_
    refine rn trivial ?_
    rfl
  · rintro i hp' hi hh hno ⟨r, rfl⟩
    rw [fz_len] at hi
    rw [mlatN_hit hh hi (fun j h1 h2 => hno j h1 (by rw [fz_len]; exact h2))]
    (refine rn trivial ?_; try with_reducible exact ⟨⟩)
end
section
attribute [local go_sem] lenBo allBo appBo slkBo srcBo frzBo app_Bo lenI allI appI slkI srcI frzI app_In
theorem ssame_v (a : Md) (h : a.done.length ≤ 100000 ∧ a.wait.length ≤ 100000) : VCalls prog 16 [.agg a.c, .agg a.c] [] (Ret (.bool true)) := by
  refine dk Tryz.func16 ?_
  obtain ⟨h1, h2⟩ := h
  have e1 : (a.on != a.on) = false := by simp
  have e2 : ((a.done.length : Int) != a.done.length) = false := by simp
  have e3 : ((a.wait.length : Int) != a.wait.length) = false := by simp
  (unfold Tryz.f16; refine rn trivial ?_)
  have F := (And.intro @e1 (And.intro @e2 @e3))
  refine rn F ?_
  refine vloopW (fun s : {i : Nat // i ≤ a.done.length} => ⟨66, 0, [(5, .int .i64 s.1), (3, .ptr 1 0), (2, .ptr 0 0)], [⟨34, true, a.c⟩, ⟨34, true, a.c⟩]⟩) (fun s => a.done.length - s.1) ⟨0, Nat.zero_le _⟩ (gc [0, 1]) ?_
  rintro ⟨i, hi⟩
  dsimp only
  by_cases h : i < a.done.length
  · have hg := fzBo_g a.done i h
    have e4 : (a.done.getD i false != a.done.getD i false) = false := by simp
    have F := (And.intro @hg @e4)
    refine rn F ?_
    repeat' (first
      | with_reducible exact ⟨⟩
      | (refine vspine (id := 6) [0, 1, 2, 3, 4, 5, 6, 7, 8, 9, 10] [] (by kernel_rfl) (by kernel_rfl) ?_; refine rn F ?_))
    all_goals first
      | exact ⟨⟨i + 1, h⟩, by dsimp only; omega, (gc [0, 1])⟩
      | skip
  · obtain rfl : i = a.done.length := by omega
    have F := trivial
    refine rn F ?_
    refine vloopW (fun s : {i : Nat // i ≤ a.wait.length} => ⟨66, 0, [(6, .int .i64 s.1), (3, .ptr 1 0), (2, .ptr 0 0)], [⟨34, true, a.c⟩, ⟨34, true, a.c⟩]⟩) (fun s => a.wait.length - s.1) ⟨0, Nat.zero_le _⟩ (gc [0, 1]) ?_
    rintro ⟨j, hj⟩
    dsimp only
    by_cases h : j < a.wait.length
    · have hg := fzIn_g a.wait j h
      have e5 : (a.wait.getD j 0 != a.wait.getD j 0) = false := by simp
      have F := (And.intro @hg @e5)
      refine rn F ?_
      repeat' (first
        | with_reducible exact ⟨⟩
        | (refine vspine (id := 11) [0, 1, 2, 3, 4, 5, 6, 7, 8, 9, 10] [] (by kernel_rfl) (by kernel_rfl) ?_; refine rn F ?_))
      all_goals first
        | exact ⟨⟨j + 1, h⟩, by dsimp only; omega, (gc [0, 1])⟩
        | skip
    · obtain rfl : j = a.wait.length := by omega
      have F := trivial
      (refine rn F ?_; try with_reducible exact ⟨⟩)
theorem app_len (x : Lg) (e : E) : (appS x e).1.es.length ≤ x.es.length + 1 := by
  unfold appS
  split
  · simp [Lg0]
  split
  · simp [Lg0]
  split
  · simp [Lg0]
  · simp
theorem mlatN_sm (es : List E) (hb : ∀ i, i < es.length → (es.getD i E0).kind = 8 → (es.getD i E0).blob.length ≤ 8192) : ∀ n, n ≤ es.length → (mlatN es n).1.done.length ≤ 100000 ∧ (mlatN es n).1.wait.length ≤ 100000
  | 0, _ => ⟨by simp [mlatN, Mz], by simp [mlatN, Mz]⟩
  | n + 1, hn => by
    unfold mlatN
    split
    · rename_i h
      unfold hitS at h
      simp only [Bool.and_eq_true, decide_eq_true_eq] at h
      have := hb n (by omega) h.1
      refine ⟨?_, by simp [rdS]⟩
      dsimp only [rdS]
      rw [bitsS_len]; omega
    · exact mlatN_sm es hb n (by omega)
theorem mlatS_sm (x : Lg) : (mlatS x).1.done.length ≤ 100000 ∧ (mlatS x).1.wait.length ≤ 100000 := by
  unfold mlatS
  split
  · rename_i h
    exact mlatN_sm _ (fun i hi hk => mblob_len h hi hk) _ (Nat.le_refl _)
  · exact ⟨by simp [Mz], by simp [Mz]⟩
theorem mlatN_at (es : List E) : ∀ n, n ≤ es.length → (mlatN es n).2.1 = 0 ∨ ∃ k, k < es.length ∧ (mlatN es n).2.1 = (es.getD k E0).lsn
  | 0, _ => .inl rfl
  | n + 1, hn => by
    unfold mlatN
    split
    · exact .inr ⟨n, by omega, rfl⟩
    · exact mlatN_at es n (by omega)
theorem mlatS_at (x : Lg) : (mlatS x).2.1 = 0 ∨ ∃ k : Nat, k < x.es.length ∧ (mlatS x).2.1 - x.f = k ∧ (x.es.getD k E0).okB = true := by
  unfold mlatS
  split
  · rename_i h
    rcases mlatN_at x.es x.es.length (Nat.le_refl _) with h0 | ⟨k, hk, he⟩
    · exact .inl h0
    · refine .inr ⟨k, hk, ?_, ?_⟩
      all_goals
        unfold lgB at h
        simp only [Bool.and_eq_true, List.all_eq_true, List.mem_range] at h
        have h2 := h.2 k hk
        simp only [lgC, Bool.and_eq_true, decide_eq_true_eq] at h2
      · rw [he, h2.1]; omega
      · exact h2.2
  · exact .inl rfl
end
def lastS (x : Lg) : Int := if lgB x = true then x.end_ else 0
theorem rlLast_v (x : Lg) (hx : x.es.length ≤ 9223372036854775807) : VCalls prog 37 [.agg x.c] [] (Ret (.int .i64 (lastS x))) := by
  refine dd Tryz.func37 ?_
  have c1 := rlvalid_v x hx
  have c2 := rlast_v x
  have hh := @lgB_hd x
  simp only [Lg.hd] at hh
  unfold lastS
  generalize lgB x = b at *
  cases b
  · (unfold Tryz.f37; refine rn trivial ?_; try with_reducible exact ⟨⟩)
    refine rn F ?_
    repeat' (first
      | with_reducible exact ⟨⟩
      | refine vp F (c1) ?_)
    all_goals rfl
  · replace hh := hh rfl
    (unfold Tryz.f37; refine rn trivial ?_)
    refine rn F ?_
    repeat' (first
      | with_reducible exact ⟨⟩
      | refine vp F (c1) ?_
      | refine vp F (c2 (by omega) (by omega)) ?_)
    all_goals rfl
theorem rappend_v (x : Lg) (hx : x.es.length ≤ 9223372036854775807) (e : E) : VCalls prog 13 [.agg x.c, .agg e.d] [] (Ret (appD (appS x e))) := by
  refine dk Tryz.func13 ?_
  have c1 := rlvalid_v x hx
  have c2 := rlast_v x
  have c3 := rvalid_v { e with lsn := x.end_ + 1 }
  have hh := @lgB_hd x
  have he := @lgB_end x
  simp only [Lg.hd] at hh
  have e0 : appS x e = if lgB x = false then (Lg0, 0, 26) else if x.es.length = 4096 ∨ 1099511627776 < x.end_ + 1 then (Lg0, 0, 21)
    else if ({ e with lsn := x.end_ + 1 } : E).okB = false then (Lg0, 0, 12) else (⟨x.f, x.es ++ [{ e with lsn := x.end_ + 1 }], x.d⟩, x.end_ + 1, 0) := rfl
  unfold appD
  generalize appS x e = r at *
  generalize lgB x = b at *
  obtain ⟨lsn, kind, tx, ptx, ppg, ref, c, blob⟩ := e
  dsimp only at c3 e0 ⊢
  cases b
  · (unfold Tryz.f13; refine rn trivial ?_; try with_reducible exact ⟨⟩)
    refine rn F ?_
    repeat' (first
      | with_reducible exact ⟨⟩
      | refine vp F (c1) ?_)
    all_goals (first | (rw [e0]; simp (disch := first | assumption | omega | exact rfl | exact nf (by assumption) | exact nt (by assumption) | decide | fail) only [if_pos, if_neg]; first | done | rfl) | (rw [e0]; simp (disch := first | assumption | omega | exact rfl | exact nf (by assumption) | exact nt (by assumption) | decide | (simp_all; done) | fail) only [if_pos, if_neg]; first | done | rfl))
  · replace hh := hh rfl
    replace he := he rfl
    have hdef : x.end_ = x.f + x.es.length - 1 := rfl
    have hl := app_E x.es ⟨x.end_ + 1, kind, tx, ptx, ppg, ref, c, blob⟩
    dsimp only at hl
    have hb : (x.es.length + 1) * 128 ≤ 140737488355328 := by omega
    generalize (⟨x.end_ + 1, kind, tx, ptx, ppg, ref, c, blob⟩ : E).okB = ok at *
    generalize x.end_ = en at *
    (unfold Tryz.f13; refine rn trivial ?_)
    have F := (And.intro @hb @hl)
    refine rn F ?_
    repeat' (first
      | with_reducible exact ⟨⟩
      | (refine sG F ?_ ?_ <;> intro hZ)
      | (refine sB F ?_ ?_ <;> intro hZ)
      | refine vp F (c1) ?_
      | refine vp F (c2 (by omega) (by omega)) ?_
      | refine vp F (c3) ?_
      | (refine vspine (id := 8) [0, 1, 3] [⟨[4], [], 2, [0, 3], []⟩, ⟨[4], [4], 5, [0, 1, 3], [6]⟩, ⟨[], [], 7, [], []⟩] (by kernel_rfl) (by kernel_rfl) ?_; refine rn F ?_)
      | (refine vspine (id := 9) [0, 1, 2] [⟨[], [], 3, [1, 2], []⟩, ⟨[], [], 4, [], []⟩, ⟨[], [], 5, [], []⟩] (by kernel_rfl) (by kernel_rfl) ?_; refine rn F ?_))
    all_goals first | (first | (rw [e0]; simp (disch := first | assumption | omega | exact rfl | exact nf (by assumption) | exact nt (by assumption) | decide | fail) only [if_pos, if_neg]; first | done | rfl) | (rw [e0]; simp (disch := first | assumption | omega | exact rfl | exact nf (by assumption) | exact nt (by assumption) | decide | (simp_all; done) | fail) only [if_pos, if_neg]; first | done | rfl)) | skip
theorem rforce_v (x : Lg) (hx : x.es.length ≤ 9223372036854775807) (n : Int) : VCalls prog 36 [.agg x.c, .int .i64 n] [] (Ret (lgD (forceS x n))) := by
  refine dk Tryz.func36 ?_
  have c1 := rlvalid_v x hx
  have c2 := rlast_v x
  have hh := @lgB_hd x
  simp only [Lg.hd] at hh
  have e0 : forceS x n = if lgB x = false then (Lg0, 26) else if x.end_ < n then (Lg0, 14) else (⟨x.f, x.es, if n > x.d then n else x.d⟩, 0) := rfl
  unfold lgD
  generalize forceS x n = r at *
  generalize lgB x = b at *
  cases b
  · (unfold Tryz.f36; refine rn trivial ?_; try with_reducible exact ⟨⟩)
    refine rn F ?_
    repeat' (first
      | with_reducible exact ⟨⟩
      | refine vp F (c1) ?_)
    all_goals (first | (rw [e0]; simp (disch := first | assumption | omega | exact rfl | exact nf (by assumption) | exact nt (by assumption) | decide | fail) only [if_pos, if_neg]; first | done | rfl) | (rw [e0]; simp (disch := first | assumption | omega | exact rfl | exact nf (by assumption) | exact nt (by assumption) | decide | (simp_all; done) | fail) only [if_pos, if_neg]; first | done | rfl))
  · replace hh := hh rfl
    (unfold Tryz.f36; refine rn trivial ?_)
    refine rn F ?_
    repeat' (first
      | with_reducible exact ⟨⟩
      | (refine sB F ?_ ?_ <;> intro hZ)
      | refine vp F (c1) ?_
      | refine vp F (c2 (by omega) (by omega)) ?_)
    all_goals first | (first | (rw [e0]; simp (disch := first | assumption | omega | exact rfl | exact nf (by assumption) | exact nt (by assumption) | decide | fail) only [if_pos, if_neg]; first | done | rfl) | (rw [e0]; simp (disch := first | assumption | omega | exact rfl | exact nf (by assumption) | exact nt (by assumption) | decide | (simp_all; done) | fail) only [if_pos, if_neg]; first | done | rfl)) | skip
def getE (x : Lg) (n : Int) : E × Int := if lgB x = false then (E0, 26) else if n < x.f ∨ x.end_ < n then (E0, 14) else (x.es.getD (n - x.f).toNat E0, 0)
theorem rget_e (x : Lg) (hx : x.es.length ≤ 9223372036854775807) (n : Int) : VCalls prog 156 [.agg x.c, .int .i64 n] [] (Ret (.tup [.agg (getE x n).1.d, .int .i64 (getE x n).2])) := by
  refine dk Tryz.func156 ?_
  have c1 := rlvalid_v x hx
  have c2 := rlast_v x
  have hh := @lgB_hd x
  simp only [Lg.hd] at hh
  have e0 : getE x n = if lgB x = false then (E0, 26) else if n < x.f ∨ x.end_ < n then (E0, 14) else (x.es.getD (n - x.f).toNat E0, 0) := rfl
  generalize getE x n = r at *
  generalize lgB x = b at *
  cases b
  · (unfold Tryz.f156; refine rn trivial ?_; try with_reducible exact ⟨⟩)
    refine rn F ?_
    repeat' (first
      | with_reducible exact ⟨⟩
      | refine vp F (c1) ?_)
    all_goals (first | (rw [e0]; simp (disch := first | assumption | omega | exact rfl | exact nf (by assumption) | exact nt (by assumption) | decide | fail) only [if_pos, if_neg]; first | done | rfl) | (rw [e0]; simp (disch := first | assumption | omega | exact rfl | exact nf (by assumption) | exact nt (by assumption) | decide | (simp_all; done) | fail) only [if_pos, if_neg]; first | done | rfl))
  · replace hh := hh rfl
    have hdef : x.end_ = x.f + x.es.length - 1 := rfl
    generalize x.end_ = en at *
    have hg := fun h : (n - x.f).toNat < x.es.length => fzE_g x.es (n - x.f).toNat h
    (unfold Tryz.f156; refine rn trivial ?_)
    have F := @hg
    refine rn F ?_
    repeat' (first
      | with_reducible exact ⟨⟩
      | (refine sG F ?_ ?_ <;> intro hZ)
      | (refine sB F ?_ ?_ <;> intro hZ)
      | refine vp F (c1) ?_
      | refine vp F (c2 (by omega) (by omega)) ?_)
    all_goals first | (first | (rw [e0]; simp (disch := first | assumption | omega | exact rfl | exact nf (by assumption) | exact nt (by assumption) | decide | fail) only [if_pos, if_neg]; first | done | rfl) | (rw [e0]; simp (disch := first | assumption | omega | exact rfl | exact nf (by assumption) | exact nt (by assumption) | decide | (simp_all; done) | fail) only [if_pos, if_neg]; first | done | rfl)) | skip
theorem rcut_v (x : Lg) (hx : x.es.length ≤ 9223372036854775807) (n : Int) : VCalls prog 38 [.agg x.c, .int .i64 n] [] (Ret (lgD (cutS x n))) := by
  refine dk Tryz.func38 ?_
  have c1 := rlvalid_v x hx
  have c2 := rlast_v x
  have hh := @lgB_hd x
  simp only [Lg.hd] at hh
  have e0 : cutS x n = if lgB x = false then (Lg0, 26) else if n < x.f ∨ x.end_ + 1 < n ∨ 1099511627776 < n then (Lg0, 1) else if x.d < n - 1 then (Lg0, 15) else (⟨n, x.es.drop (n - x.f).toNat, x.d⟩, 0) := rfl
  unfold lgD
  generalize cutS x n = r at *
  generalize lgB x = b at *
  cases b
  · (unfold Tryz.f38; refine rn trivial ?_; try with_reducible exact ⟨⟩)
    refine rn F ?_
    repeat' (first
      | with_reducible exact ⟨⟩
      | refine vp F (c1) ?_)
    all_goals (first | (rw [e0]; simp (disch := first | assumption | omega | exact rfl | exact nf (by assumption) | exact nt (by assumption) | decide | fail) only [if_pos, if_neg]; first | done | rfl) | (rw [e0]; simp (disch := first | assumption | omega | exact rfl | exact nf (by assumption) | exact nt (by assumption) | decide | (simp_all; done) | fail) only [if_pos, if_neg]; first | done | rfl))
  · replace hh := hh rfl
    have hdef : x.end_ = x.f + x.es.length - 1 := rfl
    generalize x.end_ = en at *
    have hb : (x.es.length - (n - x.f).toNat) * 128 ≤ 140737488355328 := by omega
    (unfold Tryz.f38; refine rn trivial ?_)
    have F := @hb
    refine rn F ?_
    repeat' (first
      | with_reducible exact ⟨⟩
      | (refine sG F ?_ ?_ <;> intro hZ)
      | (refine sB F ?_ ?_ <;> intro hZ)
      | refine vp F (c1) ?_
      | refine vp F (c2 (by omega) (by omega)) ?_)
    all_goals first | (first | (rw [e0]; simp (disch := first | assumption | omega | exact rfl | exact nf (by assumption) | exact nt (by assumption) | decide | fail) only [if_pos, if_neg]; first | done | rfl) | (rw [e0]; simp (disch := first | assumption | omega | exact rfl | exact nf (by assumption) | exact nt (by assumption) | decide | (simp_all; done) | fail) only [if_pos, if_neg]; first | done | rfl)) | skip
def lsnB (n : Int) : Bool := decide (0 ≤ n) && decide (n ≤ 1099511627776)
theorem rlsn_v (n : Int) : VCalls prog 213 [.int .i64 n] [] (Ret (.bool (lsnB n))) := by
  refine dd Tryz.func213 ?_
  (unfold Tryz.f213; refine rn trivial ?_)
  refine rn F ?_
  repeat' (first
    | with_reducible exact ⟨⟩
    | (refine sG F ?_ ?_ <;> intro hZ))
  all_goals (first | rfl | (congr 3; rw [Bool.eq_iff_iff]; (try simp only [lsnB, decide_eq_true_eq, Bool.and_eq_true, Bool.or_eq_true, Bool.not_eq_true', Bool.not_eq_false', decide_eq_false_iff_not, beq_iff_eq, bne_iff_ne, ne_eq, Bool.false_eq_true, Bool.true_eq_false, iff_true, true_iff, iff_false, false_iff]); first | done | omega | grind))
def rowC (l : List Rw) (i : Nat) : Bool := lsnB (l.getD i Rw0).lsn && lsnB (l.getD i Rw0).im && lsnB (l.getD i Rw0).at_ && !(decide ((l.getD i Rw0).im = 0) && !decide ((l.getD i Rw0).at_ = 0))
def ixB (l : List Rw) : Bool := decide (1 ≤ l.length) && decide (l.length ≤ 64) && (List.range l.length).all (rowC l)
theorem ixB_len {l : List Rw} (h : ixB l = true) : 1 ≤ l.length ∧ l.length ≤ 64 := by
  unfold ixB at h; simp only [Bool.and_eq_true, decide_eq_true_eq] at h; exact h.1
theorem rixvalid_v (l : List Rw) (hl : l.length ≤ 1000000) : VCalls prog 165 [.agg [.pv (.sl (fz encR l))]] [] (Ret (.bool (ixB l))) := by
  refine dd Tryz.func165 ?_
  have hB : ixB l = (decide (1 ≤ l.length) && decide (l.length ≤ 64) && (List.range l.length).all (rowC l)) := rfl
  have hB' : 1 ≤ l.length → l.length ≤ 64 → ixB l = (List.range l.length).all (rowC l) := fun h h2 => by rw [hB, decide_eq_true h, decide_eq_true h2, Bool.true_and, Bool.true_and]
  have no : ¬ (1 ≤ l.length ∧ l.length ≤ 64) → ixB l = false := fun h => by
    rw [hB]
    by_cases h1 : 1 ≤ l.length
    · rw [decide_eq_false (show ¬ l.length ≤ 64 from fun h2 => h ⟨h1, h2⟩)]; simp
    · rw [decide_eq_false h1]; rfl
  generalize ixB l = b at *
  (unfold Tryz.f165; refine rn trivial ?_)
  refine rn F ?_
  repeat' (first
    | with_reducible exact ⟨⟩
    | (refine sG F ?_ ?_ <;> intro hZ)
    | (refine sB F ?_ ?_ <;> intro hZ))
  all_goals first | (rw [no (by omega)]) | skip
  refine vloopW (fun s : Okay l.length (rowC l) => ⟨53, 0, [(3, .int .i64 s.i), (1, .ptr 0 0)], [⟨80, true, [.pv (.sl (fz encR l))]⟩]⟩) (fun s => l.length - s.i) (Okay.start _ _) (gc [0]) ?_
  intro s
  have hsi := s.hi
  have hg := fun h : s.i < l.length => fzR_at l s.i h
  have e : rowC l s.i = (lsnB (l.getD s.i Rw0).lsn && lsnB (l.getD s.i Rw0).im && lsnB (l.getD s.i Rw0).at_ && !(decide ((l.getD s.i Rw0).im = 0) && !decide ((l.getD s.i Rw0).at_ = 0))) := rfl
  have c1 := rlsn_v (l.getD s.i Rw0).lsn
  have c2 := rlsn_v (l.getD s.i Rw0).im
  have c3 := rlsn_v (l.getD s.i Rw0).at_
  generalize lsnB (l.getD s.i Rw0).lsn = b1 at *
  generalize lsnB (l.getD s.i Rw0).im = b2 at *
  generalize lsnB (l.getD s.i Rw0).at_ = b3 at *
  have F := @hg
  refine rn F ?_
  repeat' (first
    | with_reducible exact ⟨⟩
    | (refine sG F ?_ ?_ <;> intro hZ)
    | (refine sB F ?_ ?_ <;> intro hZ)
    | refine vp F (c1) ?_
    | refine vp F (c2) ?_
    | refine vp F (c3) ?_)
  all_goals first
    | (exact congrArg DV.bool (s.no (by omega) (hB' (by omega) (by omega)) (by rw [e]; simp_all)).symm)
    | (exact congrArg DV.bool (s.yes (by omega) (hB' (by omega) (by omega))).symm)
    | (exact ⟨s.next (by omega) (by rw [e]; simp_all), s.dec (by omega), (gc [0])⟩)
    | skip
theorem setR_in (l : List Rw) (i : Nat) (r : Rw) (hi : i < l.length) : (cells encR l).take (i * 3) ++ [.pv (.lit (.int .i64 r.lsn)), .pv (.lit (.int .i64 r.im)), .pv (.lit (.int .i64 r.at_))] ++ (cells encR l).drop (i * 3 + 3) = cells encR (l.set i r) := set_in encR l i r hi
theorem rixset_v (l : List Rw) (hl : l.length ≤ 1000000) (i : Nat) (hi : i < l.length) (r : Rw) : VCalls prog 201 [.agg [.pv (.sl (fz encR l))], .int .i64 i, .agg r.d] [] (Ret (.agg [.pv (.sl (fz encR (l.set i r)))])) := by
  refine dd Tryz.func201 ?_
  have hb : i * 3 + 3 ≤ l.length * 3 := by omega
  have hse := setR_in l i r hi
  have hle : (l.set i r).length = l.length := List.length_set
  (unfold Tryz.f201; refine rn trivial ?_)
  have F := (And.intro @hb (And.intro @hse @hle))
  (refine rn F ?_; try with_reducible exact ⟨⟩)
theorem okB_page {e : E} (h : e.okB = true) (hk : e.kind = 1 ∨ e.kind = 2 ∨ e.kind = 7) : 0 ≤ e.c.pg ∧ e.c.pg < 64 := by
  unfold E.okB at h
  simp only [Bool.and_eq_true] at h
  have h2 := h.2
  unfold E.kindB Ch.okB Ch.ix at h2
  rcases hk with hk | hk | hk <;> rw [hk] at h2 <;> simp at h2 <;> omega
def noteR (l : List Rw) (e : E) : List Rw × Int :=
  if ixB l = false then ([], 28) else if e.okB = false then ([], 12) else if e.kind ≠ 7 then (l, 0) else if (l.length : Int) ≤ e.c.pg then ([], 1)
  else (l.set e.c.pg.toNat ⟨if e.ref > (l.getD e.c.pg.toNat Rw0).lsn then e.ref else (l.getD e.c.pg.toNat Rw0).lsn, (l.getD e.c.pg.toNat Rw0).im, (l.getD e.c.pg.toNat Rw0).at_⟩, 0)
theorem rixnote_v (l : List Rw) (hl : l.length ≤ 1000000) (e : E) : VCalls prog 158 [.agg [.pv (.sl (fz encR l))], .agg e.d] [] (Ret (.tup [.agg [.pv (.sl (fz encR (noteR l e).1))], .int .i64 (noteR l e).2])) := by
  refine dk Tryz.func158 ?_
  have c1 := rixvalid_v l hl
  have c2 := rvalid_v e
  have c3 := fun i hi => rixset_v l hl i hi
  have hp := @okB_page e
  have hp1 := hp
  have e0 : noteR l e = if ixB l = false then ([], 28) else if e.okB = false then ([], 12) else if e.kind ≠ 7 then (l, 0) else if (l.length : Int) ≤ e.c.pg then ([], 1)
    else (l.set e.c.pg.toNat ⟨if e.ref > (l.getD e.c.pg.toNat Rw0).lsn then e.ref else (l.getD e.c.pg.toNat Rw0).lsn, (l.getD e.c.pg.toNat Rw0).im, (l.getD e.c.pg.toNat Rw0).at_⟩, 0) := rfl
  generalize noteR l e = r at *
  generalize ixB l = b at *
  cases hok : e.okB
  · rw [hok] at c2 e0
    (unfold Tryz.f158; refine rn trivial ?_)
    refine rn F ?_
    repeat' (first
      | with_reducible exact ⟨⟩
      | (refine sB F ?_ ?_ <;> intro hZ)
      | refine vp F (c1) ?_
      | refine vp F (c2) ?_)
    all_goals first | (first | (rw [e0]; simp (disch := first | assumption | omega | exact rfl | exact nf (by assumption) | exact nt (by assumption) | decide | fail) only [if_pos, if_neg]; first | done | rfl) | (rw [e0]; simp (disch := first | assumption | omega | exact rfl | exact nf (by assumption) | exact nt (by assumption) | decide | (simp_all; done) | fail) only [if_pos, if_neg]; first | done | rfl)) | skip
  rw [hok] at c2 e0
  by_cases hk : e.kind = 7
  · obtain ⟨i, hi⟩ : ∃ i : Nat, e.c.pg = i := ⟨e.c.pg.toNat, by have := hp hok (.inr (.inr hk)); omega⟩
    rw [hi, Int.toNat_natCast] at e0
    have hg := fun h : i < l.length => fzR_at l i h
    generalize l.getD i Rw0 = w at *
    (unfold Tryz.f158; refine rn trivial ?_)
    have F := (And.intro @hi (And.intro @hg @hk))
    refine rn F ?_
    repeat' (first
      | with_reducible exact ⟨⟩
      | (refine sB F ?_ ?_ <;> intro hZ)
      | refine vp F (c1) ?_
      | refine vl F (c2) ?_
      | refine vp F (c3 i (by omega) ⟨_, _, _⟩) ?_)
    all_goals first | (first | (rw [e0]; simp (disch := first | assumption | omega | exact rfl | exact nf (by assumption) | exact nt (by assumption) | decide | fail) only [if_pos, if_neg]; first | done | rfl) | (rw [e0]; simp (disch := first | assumption | omega | exact rfl | exact nf (by assumption) | exact nt (by assumption) | decide | (simp_all; done) | fail) only [if_pos, if_neg]; first | done | rfl)) | skip
  · (unfold Tryz.f158; refine rn trivial ?_; try with_reducible exact ⟨⟩)
    have F := @hk
    refine rn F ?_
    repeat' (first
      | with_reducible exact ⟨⟩
      | (refine sB F ?_ ?_ <;> intro hZ)
      | refine vp F (c1) ?_
      | refine vp F (c2) ?_)
    all_goals first | (first | (rw [e0]; simp (disch := first | assumption | omega | exact rfl | exact nf (by assumption) | exact nt (by assumption) | decide | fail) only [if_pos, if_neg]; first | done | rfl) | (rw [e0]; simp (disch := first | assumption | omega | exact rfl | exact nf (by assumption) | exact nt (by assumption) | decide | (simp_all; done) | fail) only [if_pos, if_neg]; first | done | rfl)) | skip
theorem ce_no {c : Ce} (h : c.no = true) : c.data.length ≤ 12 := by
  unfold Ce.no at h
  simp only [Bool.and_eq_true, beq_iff_eq] at h
  rw [h.2]; exact Nat.zero_le _
theorem ce_ok {c : Ce} (h : c.okB = true) : c.data.length ≤ 12 := by
  unfold Ce.okB at h
  simp only [Bool.and_eq_true, decide_eq_true_eq] at h
  exact h.1
theorem okB_lens {e : E} (h : e.okB = true) : e.c.b.data.length ≤ 12 ∧ e.c.a.data.length ≤ 12 ∧ e.blob.length ≤ 8192 := by
  unfold E.okB at h
  simp only [Bool.and_eq_true] at h
  have h2 := h.2
  clear h
  unfold E.kindB at h2
  have nb : ∀ {l : List UInt8}, l == [] → l.length ≤ 8192 := fun h => by rw [beq_iff_eq] at h; rw [h]; exact Nat.zero_le _
  split at h2
  · simp only [Bool.and_eq_true, Ch.okB] at h2
    exact ⟨ce_ok h2.2.1.2, ce_ok h2.2.2, nb h2.1.2⟩
  split at h2
  · simp only [Bool.and_eq_true, Ch.okB] at h2
    exact ⟨ce_ok h2.2.1.2, ce_ok h2.2.2, nb h2.1.1.1.2⟩
  split at h2
  · simp only [Bool.and_eq_true, Ch.no] at h2
    exact ⟨ce_no h2.2.1.2, ce_no h2.2.2, nb h2.1.2⟩
  split at h2
  · simp only [Bool.and_eq_true, Ch.no, decide_eq_true_eq] at h2
    exact ⟨ce_no h2.2.1.2, ce_no h2.2.2, h2.1.2⟩
  split at h2
  · simp only [Bool.and_eq_true, Ch.ix] at h2
    exact ⟨ce_no h2.2.1.1.1.2, ce_no h2.2.1.1.2, nb h2.1.2⟩
  · cases h2
def cellBy (s : List UInt8) (c : Ce) : List UInt8 := if c.set = true then putL s c.data.length 1 ++ c.data else putL s 255 1
theorem cellBy_len (s : List UInt8) (c : Ce) : (cellBy s c).length ≤ s.length + 1 + c.data.length := by
  unfold cellBy; split
  · rw [List.length_append, putL_len]; exact Nat.le_refl _
  · rw [putL_len]; omega
theorem rcellby_v (s : List UInt8) (hs : s.length ≤ 100000000) (c : Ce) (hc : c.data.length ≤ 1000000) : VCalls prog 234 [.pv (.str s), .agg c.d] [] (Ret (.pv (.str (cellBy s c)))) := by
  refine dd Tryz.func234 ?_
  have c1 := rput_v s (by omega) 255 1 (by omega) (by omega)
  have c2 := rput_v s (by omega) c.data.length 1 (by omega) (by omega)
  have e : cellBy s c = if c.set = true then putL s c.data.length 1 ++ c.data else putL s 255 1 := rfl
  have hadd := str_add (a := putL s c.data.length 1) (b := c.data) (by rw [putL_len]; omega)
  generalize cellBy s c = r at *
  (unfold Tryz.f234; refine rn trivial ?_)
  have F := @hadd
  refine rn F ?_
  repeat' (first
    | with_reducible exact ⟨⟩
    | (refine sB F ?_ ?_ <;> intro hZ)
    | refine vp F (c1) ?_
    | refine vp F (c2) ?_
    | (refine vspine (id := 3) [0, 1, 2, 3, 5, 6] [⟨[], [], 4, [1, 2, 5, 6], [7]⟩, ⟨[], [], 8, [], []⟩] (by kernel_rfl) (by kernel_rfl) ?_; refine rn F ?_))
  all_goals first | (first | (rw [e]; simp (disch := first | assumption | omega | exact rfl | exact nf (by assumption) | exact nt (by assumption) | decide | fail) only [if_pos, if_neg]; first | done | rfl) | (rw [e]; simp (disch := first | assumption | omega | exact rfl | exact nf (by assumption) | exact nt (by assumption) | decide | (simp_all; done) | fail) only [if_pos, if_neg]; first | done | rfl)) | skip
def headBy (e : E) : List UInt8 := putL (putL (putL (putL (putL (putL (putL (putL [] e.lsn 8) e.kind 1) e.tx 4) e.ptx 8) e.ppg 8) e.ref 8) e.c.pg 4) e.c.sl 1
theorem headBy_len (e : E) : (headBy e).length = 42 := by unfold headBy; simp only [putL_len, List.length_nil]
def encBy (e : E) : List UInt8 := putL (cellBy (cellBy (headBy e) e.c.b) e.c.a) e.blob.length 4 ++ e.blob
def encE5 (e : E) : List UInt8 × Int := if e.okB = true then (encBy e, 0) else ([], 12)
theorem reenc_v (e : E) : VCalls prog 203 [.agg e.d] [] (Ret (.tup [.pv (.str (encE5 e).1), .int .i64 (encE5 e).2])) := by
  refine dd Tryz.func203 ?_
  have c1 := rvalid_v e
  unfold encE5
  cases hv : e.okB
  · rw [hv] at c1
    (unfold Tryz.f203; refine rn trivial ?_)
    refine rn F ?_
    repeat' (first
      | with_reducible exact ⟨⟩
      | refine vp F (c1) ?_)
    all_goals rfl
  rw [hv] at c1
  obtain ⟨l1, l2, l3⟩ := okB_lens hv
  have n1 := cellBy_len (headBy e) e.c.b
  have n2 := cellBy_len (cellBy (headBy e) e.c.b) e.c.a
  rw [headBy_len] at n1
  have p9 := rcellby_v (headBy e) (by rw [headBy_len]; omega) e.c.b (by omega)
  have p10 := rcellby_v (cellBy (headBy e) e.c.b) (by omega) e.c.a (by omega)
  have p11 := rput_v (cellBy (cellBy (headBy e) e.c.b) e.c.a) (by omega) e.blob.length 4 (by omega) (by omega)
  have hadd := str_add (a := putL (cellBy (cellBy (headBy e) e.c.b) e.c.a) e.blob.length 4) (b := e.blob) (by rw [putL_len]; omega)
  have hh : headBy e = putL (putL (putL (putL (putL (putL (putL (putL [] e.lsn 8) e.kind 1) e.tx 4) e.ptx 8) e.ppg 8) e.ref 8) e.c.pg 4) e.c.sl 1 := rfl
  have q := fun (s : List UInt8) (hs : s.length ≤ 1000) (n : Int) (k : Nat) (h1 : 1 ≤ k) (h8 : k ≤ 8) => rput_v s (by omega) n k h1 h8
  (unfold Tryz.f203; refine rn trivial ?_)
  have F := @hh.symm
  refine rn F ?_
  repeat' (first
    | with_reducible exact ⟨⟩
    | refine vp F (c1) ?_
    | refine vp F (q _ (by simp [putL_len]) _ 8 (by omega) (by omega)) ?_
    | refine vp F (q _ (by simp [putL_len]) _ 1 (by omega) (by omega)) ?_
    | refine vp F (q _ (by simp [putL_len]) _ 4 (by omega) (by omega)) ?_
    | (refine vspine (id := 11) [0, 1, 2, 3, 5, 6, 7] [⟨[], [], 4, [1, 2, 5, 6, 7], []⟩, ⟨[], [], 8, [0, 1, 2, 3, 5, 6], []⟩, ⟨[], [], 9, [], []⟩] (by kernel_rfl) (by kernel_rfl) ?_; refine rn F ?_))
  have F := @hadd
  refine rn F ?_
  repeat' (first
    | with_reducible exact ⟨⟩
    | refine vp F (p9) ?_
    | refine vp F (p10) ?_
    | refine vp F (p11) ?_
    | (refine vspine (id := 12) [0, 1, 2, 3, 5, 6] [⟨[], [], 4, [1, 2, 5, 6], [7]⟩, ⟨[], [], 8, [], []⟩, ⟨[], [], 9, [], []⟩] (by kernel_rfl) (by kernel_rfl) ?_; refine rn F ?_))
  all_goals rfl
theorem encE5_len (e : E) : (encE5 e).1.length ≤ 9000 := by
  unfold encE5
  split
  · rename_i hv
    obtain ⟨l1, l2, l3⟩ := okB_lens hv
    have n1 := cellBy_len (headBy e) e.c.b
    have n2 := cellBy_len (cellBy (headBy e) e.c.b) e.c.a
    rw [headBy_len] at n1
    unfold encBy
    dsimp only
    rw [List.length_append, putL_len]
    omega
  · exact Nat.zero_le _
theorem rframeE_v (e : E) : VCalls prog 160 [.agg e.d] [] (Ret (.pv (.str (frm (encE5 e).1)))) := by
  refine dd Tryz.func160 ?_
  have c1 := reenc_v e
  have hl := encE5_len e
  generalize encE5 e = r at *
  have c2 := rframe_v r.1 (by omega)
  (unfold Tryz.f160; refine rn trivial ?_)
  refine rn F ?_
  repeat' (first
    | with_reducible exact ⟨⟩
    | refine vp F (c1) ?_
    | refine vp F (c2) ?_)
  all_goals rfl
def headL (n : Int) : List UInt8 := frm (putL [80, 77, 76, 71] n 8)
theorem rheadL_v (n : Int) : VCalls prog 159 [.int .i64 n] [] (Ret (.pv (.str (headL n)))) := by
  refine dd Tryz.func159 ?_
  have c1 := rput_v [80, 77, 76, 71] (by simp) n 8 (by omega) (by omega)
  have c2 := rframe_v (putL [80, 77, 76, 71] n 8) (by rw [putL_len]; simp)
  (unfold Tryz.f159; refine rn trivial ?_)
  refine rn F ?_
  repeat' (first
    | with_reducible exact ⟨⟩
    | refine vp F (c1) ?_
    | refine vp F (c2) ?_)
  all_goals rfl
def frE (e : E) : List UInt8 := frm (encE5 e).1
theorem frE_len (e : E) : (frE e).length ≤ 9008 := by
  have := encE5_len e
  unfold frE frm
  split
  · rw [putL_len, List.length_append, putL_len, List.length_nil]; omega
  · exact Nat.zero_le _
def durB (l : List E) (d : Int) : List UInt8 := (l.filter fun e => decide (e.lsn ≤ d)).flatMap frE
def resB (l : List E) (d : Int) : List UInt8 := (l.filter fun e => !decide (e.lsn ≤ d)).flatMap frE
theorem durB_succ (l : List E) (d : Int) (i : Nat) (h : i < l.length) : durB (l.take (i + 1)) d = if (l.getD i E0).lsn ≤ d then durB (l.take i) d ++ frE (l.getD i E0) else durB (l.take i) d := by
  unfold durB
  rw [List.take_succ_eq_append_getElem h, List.filter_append, List.flatMap_append, getD_eq l i h]
  split <;> rename_i hx <;> simp [hx]
theorem resB_succ (l : List E) (d : Int) (i : Nat) (h : i < l.length) : resB (l.take (i + 1)) d = if (l.getD i E0).lsn ≤ d then resB (l.take i) d else resB (l.take i) d ++ frE (l.getD i E0) := by
  unfold resB
  rw [List.take_succ_eq_append_getElem h, List.filter_append, List.flatMap_append, getD_eq l i h]
  split <;> rename_i hx <;> simp [hx]
theorem fr_len (l : List E) : (l.flatMap frE).length ≤ 9008 * l.length := by
  induction l with
  | nil => simp
  | cons a r ih =>
    have := frE_len a
    rw [List.flatMap_cons, List.length_append, List.length_cons]; omega
theorem durB_len (l : List E) (d : Int) : (durB l d).length ≤ 9008 * l.length :=
  Nat.le_trans (fr_len _) (Nat.mul_le_mul_left _ (List.length_filter_le _ _))
theorem resB_len (l : List E) (d : Int) : (resB l d).length ≤ 9008 * l.length :=
  Nat.le_trans (fr_len _) (Nat.mul_le_mul_left _ (List.length_filter_le _ _))
theorem headL_len (n : Int) : (headL n).length ≤ 9008 := by
  unfold headL frm
  split
  · rw [putL_len, List.length_append, putL_len, putL_len, List.length_nil]; simp
  · exact Nat.zero_le _
def crashL (x : Lg) (torn : Int) : List UInt8 := if lgB x = true then headL x.f ++ durB x.es x.d ++ (resB x.es x.d).take torn.toNat else []
theorem rcrash_v (x : Lg) (hx : x.es.length ≤ 9223372036854775807) (torn : Int) : VCalls prog 118 [.agg x.c, .int .i64 torn] [] (Ret (.pv (.str (crashL x torn)))) := by
  refine dd Tryz.func118 ?_
  have c1 := rlvalid_v x hx
  have c2 := rheadL_v x.f
  have hh := headL_len x.f
  unfold crashL
  (unfold Tryz.f118; refine rn trivial ?_)
  cases hv : lgB x
  · rw [hv] at c1
    refine rn F ?_
    repeat' (first
      | with_reducible exact ⟨⟩
      | refine vp F (c1) ?_)
    all_goals rfl
  rw [hv] at c1
  have hd := lgB_hd hv
  simp only [Lg.hd] at hd
  refine rn F ?_
  repeat' (first
    | with_reducible exact ⟨⟩
    | refine vp F (c1) ?_
    | refine vp F (c2) ?_)
  generalize headL x.f = H at *
  refine vloopW (fun s : To x.es.length => ⟨55, 0, [(7, .int .i64 s.i), (6, .pv (.str (resB (x.es.take s.i) x.d))), (5, .pv (.str (H ++ durB (x.es.take s.i) x.d))), (2, .ptr 0 0), (1, .int .i64 torn)], [⟨28, true, x.c⟩]⟩) (fun s => x.es.length - s.i) ⟨0, Nat.zero_le _⟩ (by simp only [List.take_zero]; rw [show durB [] x.d = [] from rfl, show resB [] x.d = [] from rfl, List.append_nil]; exact (gc [0])) ?_
  rintro ⟨i, hi⟩
  dsimp only
  have hg := fun h : i < x.es.length => fzE_g x.es i h
  have c3 := rframeE_v (x.es.getD i E0)
  have hf := frE_len (x.es.getD i E0)
  have hs1 := durB_succ x.es x.d i
  have hs2 := resB_succ x.es x.d i
  have l1 := durB_len (x.es.take i) x.d
  have l2 := resB_len (x.es.take i) x.d
  rw [List.length_take] at l1 l2
  have hfr : frm (encE5 (x.es.getD i E0)).1 = frE (x.es.getD i E0) := rfl
  rw [hfr] at c3
  have a1 := str_add (a := H ++ durB (x.es.take i) x.d) (b := frE (x.es.getD i E0)) (by rw [List.length_append]; omega)
  have a2 := str_add (a := resB (x.es.take i) x.d) (b := frE (x.es.getD i E0)) (by omega)
  have hH : (H ++ durB (x.es.take i) x.d).length = H.length + (durB (x.es.take i) x.d).length := List.length_append
  have F := (And.intro @hg (And.intro @a1 @a2))
  refine rn F ?_
  repeat' (first
    | with_reducible exact ⟨⟩
    | (refine sB F ?_ ?_ <;> intro hZ)
    | refine vp F (c3) ?_
    | (refine vspine (id := 7) [0, 1, 2, 3, 4, 5, 6, 7, 8] [] (by kernel_rfl) (by kernel_rfl) ?_; refine rn F ?_))
  · have d1 := hs1 (by omega)
    have d2 := hs2 (by omega)
    rw [if_pos (by first | assumption | omega)] at d1 d2
    refine ⟨⟨i + 1, by omega⟩, by dsimp only; omega, ?_⟩
    dsimp only
    rw [d1, d2, ← List.append_assoc]
    exact (gc [0])
  · have d1 := hs1 (by omega)
    have d2 := hs2 (by omega)
    rw [if_neg (by first | assumption | omega)] at d1 d2
    refine ⟨⟨i + 1, by omega⟩, by dsimp only; omega, ?_⟩
    dsimp only
    rw [d1, d2]
    exact (gc [0])
  · rw [List.take_of_length_le (show x.es.length ≤ i by omega)]
    congr 3
    generalize resB x.es x.d = R
    by_cases h0 : 0 > torn
    · rw [if_pos h0]
      rw [if_neg (by omega), show torn.toNat = (0 : Int).toNat by omega]
    · rw [if_neg h0]
      by_cases h1 : (R.length : Int) < torn
      · rw [if_pos h1, Int.toNat_natCast, List.take_length, List.take_of_length_le (by omega)]
      · rw [if_neg h1]
theorem leN_congr {s t : List UInt8} {a b : Nat} : ∀ {k : Nat}, (∀ i, i < k → s.getD (a + i) 0 = t.getD (b + i) 0) → leN s a k = leN t b k
  | 0, _ => rfl
  | k + 1, h => by rw [leN, leN, leN_congr (fun i hi => h i (by omega)), h k (by omega)]
theorem leN_put (s t : List UInt8) (n : Int) (k : Nat) (hk : k ≤ 8) : leN (putL s n k ++ t) s.length k = u64N n % 2 ^ (8 * k) := by
  have h := acc_val s t n k hk k (Nat.le_refl _)
  rw [accX_leN _ _ _ hk] at h
  omega
def frq (q : List UInt8) : List UInt8 := putL [] q.length 4 ++ q
theorem frq_len (q : List UInt8) : (frq q).length = q.length + 4 := by rw [frq, List.length_append, putL_len]; simp; omega
theorem frm_eq {q : List UInt8} (h : q.length ≤ 8392) : frm q = putL (frq q) (sumX (frq q)) 4 := by rw [frm, if_pos h]; rfl
theorem frm_len {q : List UInt8} (h : q.length ≤ 8392) : (frm q).length = q.length + 8 := by rw [frm_eq h, putL_len, frq_len]
theorem putL_app2 (p q : List UInt8) (n : Int) (k : Nat) : p ++ putL q n k = putL (p ++ q) n k := by simp [putL]
theorem frm_two {q : List UInt8} (h : q.length ≤ 8392) (p r : List UInt8) : p ++ (frm q ++ r) = putL (p ++ frq q) (sumX (frq q)) 4 ++ r := by
  rw [frm_eq h, ← putL_app2, List.append_assoc]
theorem n4_at {q : List UInt8} (h : q.length ≤ 8392) (p r : List UInt8) : n4 (p ++ (frm q ++ r)) p.length = q.length := by
  have := leN_put p (q ++ ((List.range 4).map (byteI (sumX (frq q))) ++ r)) q.length 4 (by omega)
  have e : p ++ (frm q ++ r) = putL p q.length 4 ++ (q ++ ((List.range 4).map (byteI (sumX (frq q))) ++ r)) := by
    rw [frm_eq h]
    generalize sumX (frq q) = z
    simp only [frq, putL, List.nil_append, List.append_assoc]
  rw [n4, e, this]
  unfold u64N; omega
theorem n4_sum {q : List UInt8} (h : q.length ≤ 8392) (p r : List UInt8) : (n4 (p ++ (frm q ++ r)) (p.length + 4 + q.length) : Int) = sumX (frq q) := by
  have := leN_put (p ++ frq q) r (sumX (frq q)) 4 (by omega)
  have hx := sumX_in (frq q)
  have hl : (p ++ frq q).length = p.length + 4 + q.length := by rw [List.length_append, frq_len]; omega
  rw [frm_two h, n4, ← hl, this]
  unfold u64N; omega
theorem frq_at {q : List UInt8} (h : q.length ≤ 8392) (p r : List UInt8) : ((p ++ (frm q ++ r)).take (p.length + 4 + q.length)).drop p.length = frq q := by
  have hl : (p ++ frq q).length = p.length + 4 + q.length := by rw [List.length_append, frq_len]; omega
  rw [frm_two h, putL, List.append_assoc, List.take_left' hl, List.drop_left]
theorem unf_at {q : List UInt8} (h : q.length ≤ 8392) (p r : List UInt8) : unf (p ++ (frm q ++ r)) p.length = (q, ((p.length + (q.length + 8) : Nat) : Int), 0) := by
  have h1 := n4_at h p r
  have h2 := n4_sum h p r
  have h3 := frq_at h p r
  have hl := frm_len h
  have hs : (p ++ (frm q ++ r)).length = p.length + (q.length + 8) + r.length := by rw [List.length_append, List.length_append, hl]; omega
  unfold unf
  rw [Int.toNat_natCast, if_neg (by omega), if_neg (by omega), h1, if_neg (by omega), if_neg (by omega), h2, h3, if_neg (by simp)]
  have e : ((p ++ (frm q ++ r)).take (p.length + 4 + q.length)).drop (p.length + 4) = q := by
    rw [← List.drop_drop, h3, frq, List.drop_left' (by rw [putL_len]; rfl)]
  rw [e]
  congr 2
  omega
theorem unf_cut {q : List UInt8} (h : q.length ≤ 8392) (p : List UInt8) (k : Nat) (hk : k < q.length + 8) : (unf (p ++ (frm q).take k) p.length).2.2 = 5 := by
  have hl := frm_len h
  have hs : (p ++ (frm q).take k).length = p.length + k := by rw [List.length_append, List.length_take]; omega
  unfold unf
  rw [Int.toNat_natCast, if_neg (by omega)]
  by_cases h4 : k < 4
  · rw [if_pos (by omega)]
  have h1 := n4_at h p []
  have h0 : n4 (p ++ (frm q).take k) p.length = q.length := by
    rw [← h1]
    refine leN_congr fun i hi => ?_
    rw [List.getD_eq_getElem?_getD, List.getD_eq_getElem?_getD, List.getElem?_append_right (by omega), List.getElem?_append_right (by omega), List.getElem?_take, if_pos (by omega), List.append_nil]
  rw [if_neg (by omega), h0, if_neg (by omega), if_pos (by omega)]
theorem unf_end (p : List UInt8) : (unf p p.length).2.2 = 5 := by
  unfold unf
  rw [Int.toNat_natCast, if_neg (by omega), if_pos (by omega)]
theorem num_put (s p : List UInt8) (n : Int) (k : Nat) (hk : k ≤ 8) (hp : putL p n k <+: s) (h : 0 ≤ n ∧ n < 2 ^ (8 * k) ∧ n ≤ 9223372036854775807) : numV s p.length k = n := by
  obtain ⟨t, rfl⟩ := hp
  unfold numV
  rw [acc_val p t n k hk k (Nat.le_refl _)]
  have e : u64N n % 2 ^ (8 * k) = n.toNat := by
    have h1 : u64N n = n.toNat := by unfold u64N; omega
    have h2 : ((2 : Int) ^ (8 * k)) = ((2 ^ (8 * k) : Nat) : Int) := by rw [Int.natCast_pow]; rfl
    rw [h1]
    exact Nat.mod_eq_of_lt (by omega)
  rw [e, IntKind.wrap_i64]
  omega
def At {t : List UInt8} (r : RS t) (p : List UInt8) : Prop := (r.e = 5 ∧ t.length < p.length) ∨ (r.e = 0 ∧ r.at_ = p.length)
theorem putL_pre (p : List UInt8) (n : Int) (k : Nat) : p <+: putL p n k := List.prefix_append _ _
theorem pre_of {t s p : List UInt8} (ht : t <+: s) (hp : p <+: s) (hl : p.length ≤ t.length) : p <+: t := List.prefix_of_prefix_length_le hp ht hl
theorem num_at {t s p : List UInt8} (ht : t <+: s) (n : Int) (k : Nat) (hk : k ≤ 8) (hp : putL p n k <+: s) (h : 0 ≤ n ∧ n < 2 ^ (8 * k) ∧ n ≤ 9223372036854775807) {r : RS t} (ha : At r p) :
    At (numR t r k).2 (putL p n k) ∧ ((numR t r k).2.e = 0 → (numR t r k).1 = n) := by
  have hl := putL_len p n k
  unfold numR
  rcases ha with ⟨h1, h2⟩ | ⟨h1, h2⟩
  · rw [if_neg (by omega)]
    refine ⟨.inl ⟨h1, by omega⟩, fun h => absurd (h1.symm.trans h) (by decide)⟩
  · rw [if_pos h1]
    split
    · rename_i hb
      refine ⟨.inr ⟨rfl, by dsimp only; omega⟩, fun _ => ?_⟩
      have e : r.at_.toNat = p.length := by omega
      dsimp only
      rw [e]
      exact num_put t p n k hk (pre_of ht hp (by omega)) h
    · refine ⟨.inl ⟨rfl, by omega⟩, fun h => absurd (show (5 : Int) = 0 from h) (by decide)⟩
theorem text_at {t s p d : List UInt8} (ht : t <+: s) (hp : p ++ d <+: s) {n : Int} {r : RS t} (ha : At r p) (hn : r.e = 0 → n = d.length) :
    At (textR t r n).2 (p ++ d) ∧ ((textR t r n).2.e = 0 → (textR t r n).1 = d) := by
  have hl : (p ++ d).length = p.length + d.length := List.length_append
  unfold textR
  rcases ha with ⟨h1, h2⟩ | ⟨h1, h2⟩
  · rw [if_neg (by omega)]
    refine ⟨.inl ⟨h1, by omega⟩, fun h => absurd (h1.symm.trans h) (by decide)⟩
  · rw [if_pos h1]
    have hn := hn h1
    split
    · rename_i hb
      refine ⟨.inr ⟨rfl, by dsimp only; omega⟩, fun _ => ?_⟩
      have e : r.at_.toNat = p.length := by omega
      have e2 : (r.at_ + n).toNat = (p ++ d).length := by omega
      dsimp only
      rw [e, e2]
      have := pre_of ht hp (by omega)
      rw [← List.prefix_iff_eq_take.1 this, List.drop_left]
    · refine ⟨.inl ⟨rfl, by omega⟩, fun h => absurd (show (5 : Int) = 0 from h) (by decide)⟩
theorem cell_at {t s p : List UInt8} (ht : t <+: s) (c : Ce) (hc : c.okB = true) (hp : cellBy p c <+: s) {r : RS t} (ha : At r p) :
    At (cellR t r).2 (cellBy p c) ∧ ((cellR t r).2.e = 0 → (cellR t r).1 = c) := by
  obtain ⟨set, data⟩ := c
  simp only [Ce.okB, Bool.and_eq_true, decide_eq_true_eq, Bool.or_eq_true, beq_iff_eq] at hc
  unfold cellR cellK
  unfold cellBy at hp ⊢
  cases set
  · simp only [Bool.false_eq_true, if_false] at hp ⊢
    obtain ⟨h1, h2⟩ := num_at (r := r) ht 255 1 (by omega) hp ⟨by omega, by omega, by omega⟩ ha
    have hd : data = [] := by rcases hc.2 with h | h; cases h; exact h
    subst hd
    split
    · rename_i h
      exact absurd (h2 h.1) h.2
    · exact ⟨h1, fun _ => rfl⟩
  · simp only [if_true] at hp ⊢
    obtain ⟨h1, h2⟩ := num_at (r := r) ht data.length 1 (by omega) ((List.prefix_append _ _).trans hp) ⟨by omega, by omega, by omega⟩ ha
    split
    · rename_i h
      have h3 := h2 h.1
      rw [if_neg (by omega)]
      obtain ⟨h4, h5⟩ := text_at ht hp h1 (n := (numR t r 1).1) (fun _ => h3)
      exact ⟨h4, fun h => by rw [h5 h]⟩
    · rename_i h
      have h3 : (numR t r 1).2.e ≠ 0 := fun e => h ⟨e, by rw [h2 e]; omega⟩
      rcases h1 with ⟨h4, h5⟩ | ⟨h4, h5⟩
      · refine ⟨.inl ⟨h4, ?_⟩, fun e => absurd e h3⟩
        rw [List.length_append]; omega
      · exact absurd h4 h3
theorem num_e {t : List UInt8} {r : RS t} {k : Nat} (h : (numR t r k).2.e = 0) : r.e = 0 := by
  unfold numR at h
  split at h
  · assumption
  · exact h
theorem text_e {t : List UInt8} {r : RS t} {n : Int} (h : (textR t r n).2.e = 0) : r.e = 0 := by
  unfold textR at h
  split at h
  · assumption
  · exact h
theorem cell_e {t : List UInt8} {r : RS t} (h : (cellR t r).2.e = 0) : r.e = 0 := by
  unfold cellR cellK at h
  split at h
  · rename_i hc
    exact num_e hc.1
  · exact num_e h
theorem ok_in (e : E) (h : e.okB = true) : (0 ≤ e.lsn ∧ e.lsn ≤ 1099511627776) ∧ (0 ≤ e.kind ∧ e.kind < 256) ∧ (0 ≤ e.tx ∧ e.tx < 4294967296) ∧ (0 ≤ e.ptx ∧ e.ptx ≤ 1099511627776) ∧ (0 ≤ e.ppg ∧ e.ppg ≤ 1099511627776) ∧ (0 ≤ e.ref ∧ e.ref ≤ 1099511627776) ∧ (0 ≤ e.c.pg ∧ e.c.pg < 64) ∧ (0 ≤ e.c.sl ∧ e.c.sl < 16) ∧ e.c.b.okB = true ∧ e.c.a.okB = true := by
  obtain ⟨lsn, kind, tx, ptx, ppg, ref, ⟨pg, sl, ⟨b1, b2⟩, ⟨a1, a2⟩⟩, blob⟩ := e
  simp only [E.okB, Bool.and_eq_true, bef, decide_eq_true_eq] at h
  obtain ⟨h0, h⟩ := h
  unfold E.kindB at h
  dsimp only at h0 h ⊢
  split at h
  · simp [Ch.okB, Ce.okB, txB] at h ⊢; grind
  split at h
  · simp [Ch.okB, Ce.okB, txB] at h ⊢; grind
  split at h
  · simp [Ch.no, Ce.no, Ce.okB, txB] at h ⊢; grind
  split at h
  · simp [Ch.no, Ce.no, Ce.okB] at h ⊢; grind
  split at h
  · simp [Ch.ix, Ce.no, Ce.okB] at h ⊢; grind
  · simp at h
theorem cellBy_pre (p : List UInt8) (c : Ce) : p <+: cellBy p c := by
  unfold cellBy
  split
  · exact (putL_pre _ _ _).trans (List.prefix_append _ _)
  · exact putL_pre _ _ _
theorem dec_at (x : E) (h : x.okB = true) {t s : List UInt8} (ht : t <+: s) (hx : encBy x <+: s) : At (decS t).2 (encBy x) ∧ ((decS t).2.e = 0 → (decS t).1 = x) := by
  obtain ⟨i1, i2, i3, i4, i5, i6, i7, i8, i9, i10⟩ := ok_in x h
  obtain ⟨l1, l2, l3⟩ := okB_lens h
  have a0 : At (rs0 t) [] := .inr ⟨rfl, rfl⟩
  have P10 : putL (cellBy (cellBy (headBy x) x.c.b) x.c.a) x.blob.length 4 <+: s := (List.prefix_append _ _).trans hx
  have P9 : cellBy (cellBy (headBy x) x.c.b) x.c.a <+: s := (putL_pre _ _ _).trans P10
  have P8 : cellBy (headBy x) x.c.b <+: s := (cellBy_pre _ _).trans P9
  have PH : headBy x <+: s := (cellBy_pre _ _).trans P8
  unfold headBy at PH P8 P9 P10
  have P7 := (putL_pre _ _ _).trans PH
  have P6 := (putL_pre _ _ _).trans P7
  have P5 := (putL_pre _ _ _).trans P6
  have P4 := (putL_pre _ _ _).trans P5
  have P3 := (putL_pre _ _ _).trans P4
  have P2 := (putL_pre _ _ _).trans P3
  have P1 := (putL_pre _ _ _).trans P2
  obtain ⟨b1, c1⟩ := num_at (r := rs0 t) ht x.lsn 8 (by omega) P1 ⟨by omega, by omega, by omega⟩ a0
  obtain ⟨b2, c2⟩ := num_at ht x.kind 1 (by omega) P2 ⟨by omega, by omega, by omega⟩ b1
  obtain ⟨b3, c3⟩ := num_at ht x.tx 4 (by omega) P3 ⟨by omega, by omega, by omega⟩ b2
  obtain ⟨b4, c4⟩ := num_at ht x.ptx 8 (by omega) P4 ⟨by omega, by omega, by omega⟩ b3
  obtain ⟨b5, c5⟩ := num_at ht x.ppg 8 (by omega) P5 ⟨by omega, by omega, by omega⟩ b4
  obtain ⟨b6, c6⟩ := num_at ht x.ref 8 (by omega) P6 ⟨by omega, by omega, by omega⟩ b5
  obtain ⟨b7, c7⟩ := num_at ht x.c.pg 4 (by omega) P7 ⟨by omega, by omega, by omega⟩ b6
  obtain ⟨b8, c8⟩ := num_at ht x.c.sl 1 (by omega) PH ⟨by omega, by omega, by omega⟩ b7
  obtain ⟨b9, c9⟩ := cell_at ht x.c.b i9 P8 b8
  obtain ⟨b10, c10⟩ := cell_at ht x.c.a i10 P9 b9
  obtain ⟨b11, c11⟩ := num_at ht x.blob.length 4 (by omega) P10 ⟨by omega, by omega, by omega⟩ b10
  obtain ⟨b12, c12⟩ := text_at ht hx b11 c11
  unfold decS
  dsimp only
  refine ⟨b12, fun e12 => ?_⟩
  have e11 := text_e e12
  have e10 := num_e e11
  have e9 := cell_e e10
  have e8 := cell_e e9
  have e7 := num_e e8
  have e6 := num_e e7
  have e5 := num_e e6
  have e4 := num_e e5
  have e3 := num_e e4
  have e2 := num_e e3
  have e1 := num_e e2
  rw [c1 e1, c2 e2, c3 e3, c4 e4, c5 e5, c6 e6, c7 e7, c8 e8, c9 e9, c10 e10, c12 e12]
theorem dec_ok (x : E) (h : x.okB = true) : decE (encBy x) = (x, 0) := by
  obtain ⟨h1, h2⟩ := dec_at x h (List.prefix_refl _) (List.prefix_refl _)
  unfold decE
  rcases h1 with ⟨h3, h4⟩ | ⟨h3, h4⟩
  · omega
  · rw [if_pos h3, if_pos h4, h2 h3, if_pos h]
def stepO (s : List UInt8) (a l : Int) : Option (E × Int) := if (unf s a).2.2 = 0 ∧ (decE (unf s a).1).2 = 0 ∧ (decE (unf s a).1).1.lsn = l then some ((decE (unf s a).1).1, (unf s a).2.1) else none
def opn (s : List UInt8) : Nat → Int → Int → List E
  | 0, _, _ => []
  | n + 1, a, l => match stepO s a l with
    | some (x, b) => x :: opn s n b (l + 1)
    | none => []
def opnS (s : List UInt8) : List E := opn s 4096 (unf s 0).2.1 (numV (unf s 0).1 4 8)
def hdO (s : List UInt8) : Prop := (unf s 0).2.2 = 0 ∧ (unf s 0).1.length = 12 ∧ (unf s 0).1.take 4 = [80, 77, 76, 71] ∧ 1 ≤ numV (unf s 0).1 4 8 ∧ numV (unf s 0).1 4 8 ≤ 1099511627776
instance (s : List UInt8) : Decidable (hdO s) := by unfold hdO; infer_instance
def openL (s : List UInt8) : Lg × Int := if hdO s then (⟨numV (unf s 0).1 4 8, opnS s, numV (unf s 0).1 4 8 + (opnS s).length - 1⟩, 0) else (Lg0, 4)
theorem opn_len (s : List UInt8) : ∀ n a l, (opn s n a l).length ≤ n
  | 0, _, _ => Nat.le_refl _
  | n + 1, a, l => by
    unfold opn
    split
    · rw [List.length_cons]; have := opn_len s n; exact Nat.succ_le_succ (this _ _)
    · exact Nat.zero_le _
theorem opn_none {s : List UInt8} {a l : Int} (n : Nat) (h : stepO s a l = none) : opn s n a l = [] := by
  cases n
  · rfl
  · unfold opn; rw [h]
theorem stepO_err {s : List UInt8} {a l : Int} (h : (unf s a).2.2 ≠ 0) : stepO s a l = none := if_neg fun x => h x.1
structure Op (s : List UInt8) (f a0 : Int) where
  l : List E
  a : Int
  hl : l.length ≤ 4096
  h : l ++ opn s (4096 - l.length) a (f + l.length) = opn s 4096 a0 f
def Op.start (s : List UInt8) (f a0 : Int) : Op s f a0 := ⟨[], a0, Nat.zero_le _, by simp⟩
theorem opn_more {s : List UInt8} {n : Nat} {a l b : Int} {x : E} (hn : n < 4096) (h : stepO s a l = some (x, b)) : opn s (4096 - n) a l = x :: opn s (4096 - (n + 1)) b (l + 1) := by
  obtain ⟨m, hm⟩ : ∃ m, 4096 - n = m + 1 := ⟨4095 - n, by omega⟩
  rw [hm, show 4096 - (n + 1) = m by omega]
  conv => lhs; unfold opn
  rw [h]
def Op.next {s : List UInt8} {f a0 : Int} (o : Op s f a0) (hn : o.l.length < 4096) {x : E} {b : Int} (h : stepO s o.a (f + o.l.length) = some (x, b)) : Op s f a0 := ⟨o.l ++ [x], b, by simp; omega, by
  have := o.h
  rw [opn_more hn h] at this
  rw [← this, List.length_append, List.length_singleton, List.append_assoc, List.singleton_append]
  congr 3
  omega⟩
theorem Op.stop {s : List UInt8} {f a0 : Int} (o : Op s f a0) (h : o.l.length < 4096 → stepO s o.a (f + o.l.length) = none) : opn s 4096 a0 f = o.l := by
  rw [← o.h]
  by_cases hc : o.l.length < 4096
  · rw [opn_none _ (h hc), List.append_nil]
  · have := o.hl
    rw [show 4096 - o.l.length = 0 by omega]; exact List.append_nil _
theorem encBy_len {e : E} (h : e.okB = true) : (encBy e).length ≤ 8392 := by
  obtain ⟨l1, l2, l3⟩ := okB_lens h
  have n1 := cellBy_len (headBy e) e.c.b
  have n2 := cellBy_len (cellBy (headBy e) e.c.b) e.c.a
  rw [headBy_len] at n1
  unfold encBy
  rw [List.length_append, putL_len]
  omega
theorem frE_ok {e : E} (h : e.okB = true) : frE e = frm (encBy e) := by unfold frE encE5; rw [if_pos h]
theorem stepO_at {e : E} (h : e.okB = true) (p r : List UInt8) : stepO (p ++ (frE e ++ r)) p.length e.lsn = some (e, ((p.length + (frE e).length : Nat) : Int)) := by
  have h1 := unf_at (encBy_len h) p r
  have h2 := dec_ok e h
  have hl := frm_len (encBy_len h)
  rw [frE_ok h]
  unfold stepO
  rw [h1]
  dsimp only
  rw [h2, if_pos ⟨rfl, rfl, rfl⟩, hl]
def seqE (l : Int) (es : List E) : Prop := ∀ i : Nat, i < es.length → (es.getD i E0).lsn = l + i ∧ (es.getD i E0).okB = true
theorem seqE_cons {l : Int} {e : E} {r : List E} (h : seqE l (e :: r)) : e.lsn = l ∧ e.okB = true ∧ seqE (l + 1) r := by
  have h0 := h 0 (by simp)
  refine ⟨by simpa using h0.1, by simpa using h0.2, fun i hi => ?_⟩
  have := h (i + 1) (by simpa using hi)
  simp only [List.getD_cons_succ] at this
  exact ⟨by omega, this.2⟩
theorem opn_frames (r : List UInt8) : ∀ (es : List E) (p : List UInt8) (l : Int) (n : Nat), seqE l es → es.length ≤ n →
    opn (p ++ (es.flatMap frE ++ r)) n p.length l = es ++ opn (p ++ (es.flatMap frE ++ r)) (n - es.length) ((p.length + (es.flatMap frE).length : Nat) : Int) (l + es.length)
  | [], p, l, n, _, _ => by simp
  | e :: t, p, l, n, h, hn => by
    obtain ⟨h1, h2, h3⟩ := seqE_cons h
    rw [List.length_cons] at hn
    obtain ⟨m, rfl⟩ : ∃ m, n = m + 1 := ⟨n - 1, by omega⟩
    have hs : p ++ ((e :: t).flatMap frE ++ r) = p ++ (frE e ++ (t.flatMap frE ++ r)) := by rw [List.flatMap_cons]; simp only [List.append_assoc]
    have hs2 : p ++ ((e :: t).flatMap frE ++ r) = (p ++ frE e) ++ (t.flatMap frE ++ r) := by rw [List.flatMap_cons]; simp only [List.append_assoc]
    have h4 := stepO_at h2 p (t.flatMap frE ++ r)
    rw [← hs, h1] at h4
    have ih := opn_frames r t (p ++ frE e) (l + 1) m h3 (by omega)
    rw [← hs2] at ih
    have e1 : opn (p ++ ((e :: t).flatMap frE ++ r)) (m + 1) p.length l = e :: opn (p ++ ((e :: t).flatMap frE ++ r)) m ((p.length + (frE e).length : Nat) : Int) (l + 1) := by
      conv => lhs; unfold opn
      rw [h4]
    rw [e1, ← List.length_append, ih, List.length_cons, List.flatMap_cons, List.length_append, List.length_append]
    rw [show m + 1 - (t.length + 1) = m - t.length by omega, List.cons_append]
    congr 3
    · omega
    · omega
theorem headL_unf {f : Int} (r : List UInt8) : unf (headL f ++ r) 0 = (putL [80, 77, 76, 71] f 8, 20, 0) := by
  have := unf_at (q := putL [80, 77, 76, 71] f 8) (by rw [putL_len]; simp) [] r
  rw [List.nil_append] at this
  unfold headL
  rw [show (([] : List UInt8).length : Int) = 0 from rfl] at this
  rw [this, putL_len]
  rfl
theorem headL_len' (f : Int) : (headL f).length = 20 := by
  unfold headL
  rw [frm_len (by rw [putL_len]; simp), putL_len]; rfl
theorem headL_ok {f : Int} (h : 1 ≤ f ∧ f ≤ 1099511627776) (r : List UInt8) : hdO (headL f ++ r) ∧ numV (unf (headL f ++ r) 0).1 4 8 = f := by
  have h1 := headL_unf (f := f) r
  have h2 : numV (putL [80, 77, 76, 71] f 8) 4 8 = f := num_put _ [80, 77, 76, 71] f 8 (by omega) (List.prefix_refl _) ⟨by omega, by omega, by omega⟩
  unfold hdO
  rw [h1]
  dsimp only
  refine ⟨⟨rfl, by rw [putL_len]; rfl, ?_, by omega, by omega⟩, h2⟩
  simp [putL]
theorem openL_frames {f : Int} (h : 1 ≤ f ∧ f ≤ 1099511627776) {es : List E} (he : seqE f es) (hl : es.length ≤ 4096) (r : List UInt8)
    (hr : es.length < 4096 → stepO (headL f ++ (es.flatMap frE ++ r)) ((20 + (es.flatMap frE).length : Nat) : Int) (f + es.length) = none) : openL (headL f ++ (es.flatMap frE ++ r)) = (⟨f, es, f + es.length - 1⟩, 0) := by
  obtain ⟨h1, h2⟩ := headL_ok h (es.flatMap frE ++ r)
  have h3 := headL_unf (f := f) (es.flatMap frE ++ r)
  have h4 := opn_frames r es (headL f) f 4096 he hl
  rw [headL_len'] at h4
  have h5 : opnS (headL f ++ (es.flatMap frE ++ r)) = es := by
    unfold opnS
    rw [h2, h3]
    dsimp only
    refine h4.trans ?_
    by_cases hc : es.length < 4096
    · rw [opn_none _ (hr hc), List.append_nil]
    · rw [show 4096 - es.length = 0 by omega]; exact List.append_nil _
  unfold openL
  rw [if_pos h1, h2, h5]
theorem lgB_seq {x : Lg} (h : lgB x = true) : seqE x.f x.es := by
  unfold lgB at h
  simp only [Bool.and_eq_true, List.all_eq_true, List.mem_range] at h
  intro i hi
  have := h.2 i hi
  simpa [lgC] using this
theorem lgB_of {x : Lg} (h : x.hd) (hs : seqE x.f x.es) : lgB x = true := by
  unfold lgB
  rw [decide_eq_true h, Bool.true_and, List.all_eq_true]
  intro i hi
  have := hs i (List.mem_range.1 hi)
  simpa [lgC] using this
theorem getD_take {α : Type} (l : List α) (n i : Nat) (h : i < n) (d : α) : (l.take n).getD i d = l.getD i d := by
  rw [List.getD_eq_getElem?_getD, List.getD_eq_getElem?_getD, List.getElem?_take, if_pos h]
theorem seqE_take {l : Int} {es : List E} (h : seqE l es) (n : Nat) : seqE l (es.take n) := fun i hi => by
  rw [List.length_take] at hi
  rw [getD_take _ _ _ (by omega)]
  exact h i (by omega)
theorem frames_take : ∀ (es : List E) (t : Nat), ∃ j m, j ≤ es.length ∧ (es.flatMap frE).take t = (es.take j).flatMap frE ++ (frE (es.getD j E0)).take m ∧ (j < es.length → m < (frE (es.getD j E0)).length) ∧ (j = es.length → m = 0)
  | [], t => ⟨0, 0, Nat.le_refl _, by simp, fun h => absurd h (by simp), fun _ => rfl⟩
  | e :: r, t => by
    by_cases h : t < (frE e).length
    · refine ⟨0, t, Nat.zero_le _, ?_, fun _ => by simpa using h, fun h => absurd h (by simp)⟩
      rw [List.flatMap_cons, List.take_append_of_le_length (by omega)]
      simp
    · obtain ⟨j, m, h1, h2, h3, h4⟩ := frames_take r (t - (frE e).length)
      refine ⟨j + 1, m, by rw [List.length_cons]; omega, ?_, fun h => ?_, fun h => ?_⟩
      · rw [List.flatMap_cons, List.take_append, List.take_of_length_le (by omega), h2, List.take_succ_cons, List.flatMap_cons, List.getD_cons_succ, List.append_assoc]
      · rw [List.length_cons] at h
        rw [List.getD_cons_succ]; exact h3 (by omega)
      · rw [List.length_cons] at h
        exact h4 (by omega)
theorem filter_split {d l : Int} : ∀ (es : List E), seqE l es → l - 1 ≤ d → d ≤ l + es.length - 1 → (es.filter fun e => decide (e.lsn ≤ d)) = es.take (d - l + 1).toNat ∧ (es.filter fun e => !decide (e.lsn ≤ d)) = es.drop (d - l + 1).toNat
  | [], _, h1, h2 => by simp
  | e :: r, h, h1, h2 => by
    obtain ⟨a1, a2, a3⟩ := seqE_cons h
    rw [List.length_cons] at h2
    by_cases hc : l ≤ d
    · obtain ⟨b1, b2⟩ := filter_split (d := d) (l := l + 1) r a3 (by omega) (by omega)
      obtain ⟨k, hk, hk2⟩ : ∃ k, (d - l + 1).toNat = k + 1 ∧ (d - (l + 1) + 1).toNat = k := ⟨(d - l).toNat, by omega, by omega⟩
      rw [hk2] at b1 b2
      rw [hk, List.take_succ_cons, List.drop_succ_cons, List.filter_cons, List.filter_cons, if_pos (by simp; omega), if_neg (by simp; omega), b1, b2]
      exact ⟨rfl, rfl⟩
    · have hk : (d - l + 1).toNat = 0 := by omega
      rw [hk, List.take_zero, List.drop_zero]
      have hall : ∀ x ∈ (e :: r), ¬ x.lsn ≤ d := fun x hx => by
        obtain ⟨i, hi, rfl⟩ := List.getElem_of_mem hx
        have := (h i hi).1
        rw [getD_eq _ _ hi] at this
        omega
      refine ⟨List.filter_eq_nil_iff.2 fun x hx => by have := hall x hx; simp; omega, List.filter_eq_self.2 fun x hx => by have := hall x hx; simp; omega⟩
theorem crash_open {x : Lg} (h : lgB x = true) (torn : Int) : ∃ n, (x.d - x.f + 1).toNat ≤ n ∧ n ≤ x.es.length ∧ openL (crashL x torn) = (⟨x.f, x.es.take n, x.f + n - 1⟩, 0) := by
  have hh := lgB_hd h
  simp only [Lg.hd] at hh
  have hs := lgB_seq h
  obtain ⟨f1, f2⟩ := filter_split (d := x.d) (l := x.f) x.es hs (by omega) (by omega)
  unfold crashL
  rw [if_pos h]
  unfold durB resB
  rw [f1, f2]
  generalize hk : (x.d - x.f + 1).toNat = k
  obtain ⟨j, m, h1, h2, h3, h4⟩ := frames_take (x.es.drop k) torn.toNat
  rw [List.length_drop] at h1 h3 h4
  have hget : (x.es.drop k).getD j E0 = x.es.getD (k + j) E0 := by
    rw [List.getD_eq_getElem?_getD, List.getD_eq_getElem?_getD, List.getElem?_drop]
  have htk : x.es.take k ++ (x.es.drop k).take j = x.es.take (k + j) := by rw [← List.take_add]
  have hlen : (x.es.take (k + j)).length = k + j := by rw [List.length_take]; omega
  refine ⟨k + j, by omega, by omega, ?_⟩
  rw [h2, hget, List.append_assoc, ← List.append_assoc, ← List.append_assoc, List.append_assoc, List.append_assoc, ← List.append_assoc (List.flatMap frE _), ← List.flatMap_append, htk]
  have := openL_frames (f := x.f) ⟨by omega, by omega⟩ (seqE_take hs (k + j)) (by rw [hlen]; omega) ((frE (x.es.getD (k + j) E0)).take m) (fun _ => stepO_err (by
    by_cases hc : j < x.es.length - k
    · have h5 := h3 hc
      rw [hget] at h5
      have hok := (hs (k + j) (by omega)).2
      rw [frE_ok hok] at h5 ⊢
      rw [frm_len (encBy_len hok)] at h5
      have := unf_cut (encBy_len hok) (headL x.f ++ (x.es.take (k + j)).flatMap frE) m h5
      rw [List.length_append, headL_len', List.append_assoc] at this
      rw [this]; decide
    · rw [h4 (by omega), List.take_zero, List.append_nil]
      have := unf_end (headL x.f ++ (x.es.take (k + j)).flatMap frE)
      rw [List.length_append, headL_len'] at this
      rw [this]; decide))
  rw [hlen] at this
  exact this
theorem ropen_v (s : List UInt8) (hs : s.length ≤ 100000000) : VCalls prog 161 [.pv (.str s)] [] (Ret (lgD (openL s))) := by
  refine VCalls.unwk ?_
  refine dd Tryz.func161 ?_
  have c0 := runframe_v s hs 0
  have hu := unf_le s 0
  generalize hR : openL s = R
  unfold unfR at c0
  generalize hU : unf s 0 = u at *
  obtain ⟨u, a0, e0⟩ := u
  dsimp only at hu c0
  (unfold Tryz.f161; refine rn trivial ?_)
  by_cases he : e0 = 0
  rotate_left
  · skip
    have F := @he
    refine rn F ?_
    repeat' (first
      | with_reducible exact ⟨⟩
      | refine vp F (c0) ?_)
    all_goals
      rw [← hR]
      unfold openL
      rw [if_neg (fun h => by have h1 := h.1; rw [hU] at h1; exact he h1)]
      rfl
  subst he
  by_cases hl : u.length = 12
  rotate_left
  · have hl2 : ¬ (u.length : Int) = 12 := by omega
    have F := @hl2
    refine rn F ?_
    repeat' (first
      | with_reducible exact ⟨⟩
      | refine vp F (c0) ?_)
    all_goals first
      | (rw [← hR]; unfold openL; rw [if_neg (fun h => by have h1 := h.2.1; rw [hU] at h1; exact hl h1)]; rfl)
      | (exfalso; omega)
  have h4 : 4 ≤ u.length := by omega
  have c3 := rget_v u (by omega) 4 8 (by omega) (by omega)
  have hN : IntKind.i64.wrap (accX u 4 8) = numV u 4 8 := rfl
  rw [hN] at c3
  generalize hn : numV u 4 8 = f at *
  have hl3 : (u.length : Int) = 12 := by omega
  by_cases hp : u.take 4 = [80, 77, 76, 71]
  rotate_left
  · skip
    have F := (And.intro @h4 (And.intro @hl3 @hp))
    refine rn F ?_
    repeat' (first
      | with_reducible exact ⟨⟩
      | (refine sG F ?_ ?_ <;> intro hZ)
      | (refine sB F ?_ ?_ <;> intro hZ)
      | refine vp F (c0) ?_
      | refine vp F (c3) ?_)
    all_goals first
      | (rw [← hR]; unfold openL; rw [if_neg (fun h => by have h1 := h.2.2.1; rw [hU] at h1; exact hp h1)]; rfl)
      | (exfalso; omega)
      | skip
    all_goals (exfalso; simp_all)
  by_cases hf : 1 ≤ f ∧ f ≤ 1099511627776
  rotate_left
  · skip
    have F := (And.intro @h4 (And.intro @hl3 @hp))
    refine rn F ?_
    repeat' (first
      | with_reducible exact ⟨⟩
      | (refine sG F ?_ ?_ <;> intro hZ)
      | refine vp F (c0) ?_
      | refine vp F (c3) ?_)
    all_goals first
      | (rw [← hR]; unfold openL; rw [if_neg (fun h => by have h1 := h.2.2.2; rw [hU, hn] at h1; exact hf h1)]; rfl)
      | (exfalso; omega)
  have F := (And.intro @h4 (And.intro @hl3 @hp))
  refine rn F ?_
  repeat' (first
    | with_reducible exact ⟨⟩
    | refine vp F (c0) ?_
    | refine vp F (c3) ?_)
  all_goals first | (exfalso; omega) | skip
  refine VLoop.nilOwnC 1 1 41 13 rfl rfl ?_
  refine rn trivial ?_
  refine vloopW (fun o : {o : Op s f a0 × Int // o.2 = f + o.1.l.length - 1} => ⟨90, 0, [(9, .ptr 1 0), (5, .int .i64 o.1.1.a), (2, .ptr 0 0), (0, .pv (.str s))], [⟨28, true, [.int .i64 0, .pv (.slc []), .int .i64 0]⟩, ⟨28, true, [.int .i64 f, .own 2 13 0 o.1.1.l.length, .int .i64 o.1.2]⟩, ⟨41, true, cells encE o.1.1.l⟩]⟩) (fun o => 4096 - o.1.1.l.length) ⟨(Op.start s f a0, f - 1), by simp [Op.start]⟩ (gc [0, 1, 2]) ?_
  rintro ⟨⟨o, d⟩, hd⟩
  dsimp only at hd ⊢
  have hol := o.hl
  have hst := o.stop
  have c4 := runframe_v s hs o.a
  unfold unfR at c4
  have hu2 := unf_le s o.a
  have hso : stepO s o.a (f + o.l.length) = if (unf s o.a).2.2 = 0 ∧ (decE (unf s o.a).1).2 = 0 ∧ (decE (unf s o.a).1).1.lsn = f + o.l.length then some ((decE (unf s o.a).1).1, (unf s o.a).2.1) else none := rfl
  generalize unf s o.a = v at *
  obtain ⟨v, b, e⟩ := v
  dsimp only at hu2 hso c4
  have c5 := jrdecode_v v (by omega)
  generalize decE v = D at *
  have hb : (o.l.length + 1) * 128 ≤ 140737488355328 := by omega
  have fin : (o.l.length < 4096 → stepO s o.a (f + o.l.length) = none) → DV.tup [.agg [.int .i64 f, .pv (.sl (fz encE o.l)), .int .i64 d], .int .i64 0] = lgD R := fun h => by
    have h1 : hdO s := by unfold hdO; rw [hU, hn]; exact ⟨rfl, hl, hp, hf⟩
    have h2 : opnS s = o.l := by unfold opnS; rw [hU, hn]; exact hst h
    rw [← hR, hd]
    unfold openL
    rw [if_pos h1, h2, hU, hn]
    rfl
  have F := @hb
  refine rn F ?_
  repeat' (first
    | with_reducible exact ⟨⟩
    | (refine sG F ?_ ?_ <;> intro hZ)
    | (refine sB F ?_ ?_ <;> intro hZ)
    | refine vp F (c4) ?_
    | refine vp F (c5) ?_)
  · exact fin fun _ => by rw [hso, if_neg fun h => by have h1 := h.1; omega]
  · exact fin fun _ => by rw [hso, if_neg fun h => by have h1 := h.2.1; have h2 := h.2.2; omega]
  · have hl1 : (o.l ++ [D.1]).length = o.l.length + 1 := by simp
    refine ⟨⟨(o.next (by omega) (x := D.1) (b := b) (by rw [hso, if_pos ⟨by omega, by omega, by omega⟩]), D.1.lsn), ?_⟩, ?_, ?_⟩
    · dsimp only [Op.next]; rw [hl1]; omega
    · dsimp only [Op.next]; rw [hl1]; omega
    · dsimp only [Op.next]
      rw [hl1]
      exact (gc [0, 1, 5])
  · exact fin fun _ => by rw [hso, if_neg fun h => by have h1 := h.2.1; omega]
  · exact fin fun h => by omega
theorem allEq2 (a b c d : Int) : allEq [.pv (.lit (.int .i64 a)), .pv (.lit (.int .i64 b))] [.pv (.lit (.int .i64 c)), .pv (.lit (.int .i64 d))] [(0, 1), (1, 1)] = some (decide (a = c) && decide (b = d)) := by simp [allEq, leafEq, Bool.beq_eq_decide_eq]
def grB (g : Gr) : Bool := decide (1 ≤ g.tx) && decide (g.tx ≤ 1073741824) && decide (0 ≤ g.pg) && decide (g.pg < 64) && decide (0 ≤ g.sl) && decide (g.sl < 16) && (decide (g.md = 1) || decide (g.md = 2))
def lessG (a b : Gr) : Bool := if a.pg ≠ b.pg then decide (a.pg < b.pg) else if a.sl ≠ b.sl then decide (a.sl < b.sl) else decide (a.tx < b.tx)
def confG (a b : Gr) : Bool := !decide (a.tx = b.tx) && (decide (a.pg = b.pg) && decide (a.sl = b.sl)) && (decide (a.md = 2) || decide (b.md = 2))
theorem rgrB_v (g : Gr) : VCalls prog 210 [.agg g.d] [] (Ret (.bool (grB g))) := by
  refine dd Tryz.func210 ?_
  (unfold Tryz.f210; refine rn trivial ?_)
  refine rn F ?_
  repeat' (first
    | with_reducible exact ⟨⟩
    | (refine sG F ?_ ?_ <;> intro hZ))
  all_goals (first | rfl | (congr 3; rw [Bool.eq_iff_iff]; (try simp only [grB, decide_eq_true_eq, Bool.and_eq_true, Bool.or_eq_true, Bool.not_eq_true', Bool.not_eq_false', decide_eq_false_iff_not, beq_iff_eq, bne_iff_ne, ne_eq, Bool.false_eq_true, Bool.true_eq_false, iff_true, true_iff, iff_false, false_iff]); first | done | omega | grind))
theorem rlessG_v (a b : Gr) : VCalls prog 211 [.agg a.d, .agg b.d] [] (Ret (.bool (lessG a b))) := by
  refine dd Tryz.func211 ?_
  have e : lessG a b = if a.pg ≠ b.pg then decide (a.pg < b.pg) else if a.sl ≠ b.sl then decide (a.sl < b.sl) else decide (a.tx < b.tx) := rfl
  generalize lessG a b = r at *
  (unfold Tryz.f211; refine rn trivial ?_)
  refine rn F ?_
  repeat' (first
    | with_reducible exact ⟨⟩
    | (refine sB F ?_ ?_ <;> intro hZ))
  all_goals first | (first | (rw [e]; simp (disch := first | assumption | omega | exact rfl | exact nf (by assumption) | exact nt (by assumption) | decide | fail) only [if_pos, if_neg]; first | done | rfl) | (rw [e]; simp (disch := first | assumption | omega | exact rfl | exact nf (by assumption) | exact nt (by assumption) | decide | (simp_all; done) | fail) only [if_pos, if_neg]; first | done | rfl)) | skip
theorem rconfG_v (a b : Gr) : VCalls prog 190 [.agg a.d, .agg b.d] [] (Ret (.bool (confG a b))) := by
  refine dd Tryz.func190 ?_
  (unfold Tryz.f190; refine rn trivial ?_)
  have F := @allEq2
  refine rn F ?_
  repeat' (first
    | with_reducible exact ⟨⟩
    | (refine sG F ?_ ?_ <;> intro hZ))
  all_goals (unfold confG; simp_all [Bool.beq_eq_decide_eq])
def keyG (tx pg sl : Int) (g : Gr) : Bool := decide (g.tx = tx) && (decide (g.pg = pg) && decide (g.sl = sl))
def modG (l : List Gr) (tx pg sl : Int) : Int := match l.find? (keyG tx pg sl) with | some g => g.md | none => 0
theorem rmodG_v (t : Lk) (hs : t.held.length ≤ 1000000) (tx pg sl : Int) : VCalls prog 212 [.agg t.d, .int .i64 tx, .agg [.int .i64 pg, .int .i64 sl]] [] (Ret (.int .i64 (modG t.held tx pg sl))) := by
  refine dd Tryz.func212 ?_
  obtain ⟨l, w⟩ := t
  dsimp only at hs ⊢
  (unfold Tryz.f212; refine rn trivial ?_)
  refine vloopW (fun s : Pass l (fun x => keyG tx pg sl x = true) => ⟨39, 0, [(7, .int .i64 s.i), (5, .ptr 1 0), (3, .ptr 0 0), (1, .int .i64 tx)], [⟨76, true, [.pv (.sl (fz encG l)), .pv (.sl (fz encG w))]⟩, ⟨188, true, [.int .i64 pg, .int .i64 sl]⟩]⟩) (fun s => l.length - s.i) (Pass.start l _) (gc [0, 1]) ?_
  intro s
  have hsi := s.hi
  have hg := fun h : s.i < l.length => fzG_at l s.i h
  have hkey : s.i < l.length → keyG tx pg sl (l.getD s.i Gr0) = keyG tx pg sl (l[s.i]?.getD Gr0) := fun _ => by rw [List.getD_eq_getElem?_getD]
  have hk0 : keyG tx pg sl (l.getD s.i Gr0) = (decide ((l.getD s.i Gr0).tx = tx) && (decide ((l.getD s.i Gr0).pg = pg) && decide ((l.getD s.i Gr0).sl = sl))) := rfl
  have F := (And.intro @hg @allEq2)
  refine rn F ?_
  repeat' (first
    | with_reducible exact ⟨⟩
    | (refine sG F ?_ ?_ <;> intro hZ)
    | (refine sB F ?_ ?_ <;> intro hZ)
    | (refine vspine (id := 4) [0, 1, 2, 3, 4, 5, 6, 7, 8, 9, 10, 11, 12, 13, 14, 15, 16, 17] [] (by kernel_rfl) (by kernel_rfl) ?_; refine rn F ?_))
  all_goals first
    | (have h := s.all (by omega)
       rw [modG, List.find?_eq_none.2 h])
    | (have hlt : s.i < l.length := by omega
       have hk : keyG tx pg sl l[s.i] = true := by rw [← getD_eq l s.i hlt Gr0, hk0]; simp_all
       rw [getD_eq l s.i hlt, modG, List.find?_eq_some_iff_getElem.2 ⟨hk, s.i, hlt, rfl, fun j hj => by simpa using s.no l[j] (List.mem_take_iff_getElem.2 ⟨j, by omega, rfl⟩)⟩])
    | (have hlt : s.i < l.length := by omega
       exact ⟨s.next hlt (by rw [← getD_eq l s.i hlt Gr0, hk0]; simp_all), by show l.length - (s.i + 1) < l.length - s.i; omega, (gc [0, 1])⟩)
    | skip
theorem rleft_w (l : List Gr) (hl : l.length ≤ 100000) (tx : Int) (one : Bool) (pg sl : Int) : VCalls prog 173 [.pv (.sl (fz encG l)), .int .i64 tx, .bool one, .agg [.int .i64 pg, .int .i64 sl]] [] (RetS (fun m : List Gr => .pv (.sl (fz encG m))) fun m => m.length ≤ l.length) := by
  refine dd Tryz.func173 ?_
  (unfold Tryz.f173; refine rn trivial ?_)
  refine VLoop.nilOwn 9 213 4 rfl ?_
  refine rn trivial ?_
  refine vloopW (fun s : {s : Nat × List Gr // s.1 ≤ l.length ∧ s.2.length ≤ s.1} => ⟨44, 0, [(10, .int .i64 s.1.1), (9, .own 1 4 0 s.1.2.length), (7, .ptr 0 0), (2, .bool one), (1, .int .i64 tx), (0, .pv (.sl (fz encG l)))], [⟨188, true, [.int .i64 pg, .int .i64 sl]⟩, ⟨213, true, cells encG s.1.2⟩]⟩) (fun s => l.length - s.1.1) ⟨(0, []), by simp⟩ (gc [0, 1]) ?_
  rintro ⟨⟨i, out⟩, hi, ho⟩
  dsimp only at hi ho ⊢
  have hg := fun h : i < l.length => fzG_at l i h
  have hb : (out.length + 1) * 32 ≤ 140737488355328 := by omega
  have F := (And.intro @hg (And.intro @hb @allEq2))
  refine rn F ?_
  repeat' (first
    | with_reducible exact ⟨⟩
    | (refine sG F ?_ ?_ <;> intro hZ)
    | (refine sB F ?_ ?_ <;> intro hZ)
    | (refine vspine (id := 5) [0, 1, 2, 3, 4, 5, 6, 7, 8, 9, 10, 11, 12, 13, 14, 15, 16, 17, 18] [] (by kernel_rfl) (by kernel_rfl) ?_; refine rn F ?_))
  all_goals first
    | exact ⟨rfl, rfl, out, rfl, by omega⟩
    | exact ⟨⟨(i + 1, out), by dsimp only; omega, by dsimp only; omega⟩, by dsimp only; omega, (gc [0, 1])⟩
    | exact ⟨⟨(i + 1, out ++ [⟨(l.getD i Gr0).tx, (l.getD i Gr0).pg, (l.getD i Gr0).sl, (l.getD i Gr0).md⟩]), by dsimp only; omega, by simp; omega⟩, by dsimp only; omega, by dsimp only; rw [List.length_append]; exact (gc [0, 3])⟩
    | skip
theorem rable_w (t : Lk) (hs : t.held.length ≤ 100000 ∧ t.wait.length ≤ 100000) (i : Nat) (hi : i < t.wait.length) : VCalls prog 220 [.agg t.d, .int .i64 i] [] (RetS (fun b : Bool => .bool b) fun _ => True) := by
  refine dd Tryz.func220 ?_
  obtain ⟨l, w⟩ := t
  dsimp only at hs hi ⊢
  have hw := fzG_at w i hi
  have c := fun a => rconfG_v a (w.getD i Gr0)
  (unfold Tryz.f220; refine rn trivial ?_)
  refine vloopW (fun s : To l.length => ⟨41, 0, [(5, .int .i64 s.i), (2, .ptr 0 0), (1, .int .i64 i)], [⟨76, true, [.pv (.sl (fz encG l)), .pv (.sl (fz encG w))]⟩]⟩) (fun s => l.length - s.i) ⟨0, Nat.zero_le _⟩ (gc [0]) ?_
  intro s
  have hsi := s.hi
  have hg := fun h : s.i < l.length => fzG_at l s.i h
  have c1 := c (l.getD s.i Gr0)
  have F := (And.intro @hg @hw)
  refine rn F ?_
  repeat' (first
    | with_reducible exact ⟨⟩
    | (refine sB F ?_ ?_ <;> intro hZ)
    | refine vp F (c1) ?_
    | (refine vspine (id := 4) [0, 1, 2, 3, 4, 5, 6, 7, 8, 9] [⟨[], [], 10, [0, 1, 2, 3, 5, 6, 7, 8], []⟩] (by kernel_rfl) (by kernel_rfl) ?_; refine rn F ?_))
  all_goals first
    | exact ⟨rfl, rfl, _, rfl, trivial⟩
    | exact ⟨⟨s.i + 1, by omega⟩, by dsimp only; omega, (gc [0])⟩
    | skip
  refine vloopW (fun s : To i => ⟨41, 0, [(6, .int .i64 s.i), (2, .ptr 0 0), (1, .int .i64 i)], [⟨76, true, [.pv (.sl (fz encG l)), .pv (.sl (fz encG w))]⟩]⟩) (fun s => i - s.i) ⟨0, Nat.zero_le _⟩ (gc [0]) ?_
  intro s
  have hsi := s.hi
  have hg := fun h : s.i < w.length => fzG_at w s.i h
  have c1 := c (w.getD s.i Gr0)
  have F := (And.intro @hg @hw)
  refine rn F ?_
  repeat' (first
    | with_reducible exact ⟨⟩
    | (refine sB F ?_ ?_ <;> intro hZ)
    | refine vp F (c1) ?_
    | (refine vspine (id := 9) [0, 1, 2, 3, 4, 5, 6, 7, 8, 9] [⟨[], [], 10, [0, 1, 2, 3, 5, 6, 7, 8], []⟩] (by kernel_rfl) (by kernel_rfl) ?_; refine rn F ?_))
  all_goals first
    | exact ⟨rfl, rfl, _, rfl, trivial⟩
    | exact ⟨⟨s.i + 1, by omega⟩, by dsimp only; omega, (gc [0])⟩
    | skip
theorem rhold_w (l : List Gr) (hl : l.length ≤ 100000) (g : Gr) : VCalls prog 221 [.pv (.sl (fz encG l)), .agg g.d] [] (RetS (fun m : List Gr => .pv (.sl (fz encG m))) fun m => m.length ≤ l.length + 1) := by
  refine dd Tryz.func221 ?_
  (unfold Tryz.f221; refine rn trivial ?_)
  refine VLoop.nilOwn 5 213 4 rfl ?_
  refine rn trivial ?_
  refine vloopW (fun s : {s : Nat × List Gr × Bool // s.1 ≤ l.length ∧ s.2.1.length ≤ s.1 + 1 ∧ (s.2.2 = false → s.2.1.length ≤ s.1)} => ⟨61, 0, [(7, .int .i64 s.1.1), (6, .bool s.1.2.2), (5, .own 1 4 0 s.1.2.1.length), (3, .ptr 0 0), (0, .pv (.sl (fz encG l)))], [⟨213, true, g.d⟩, ⟨213, true, cells encG s.1.2.1⟩]⟩) (fun s => l.length - s.1.1) ⟨(0, [], false), by simp⟩ (gc [0, 1]) ?_
  rintro ⟨⟨i, out, dn⟩, hi, ho, hd⟩
  dsimp only at hi ho hd ⊢
  have hg := fun h : i < l.length => fzG_at l i h
  have c := rlessG_v (l.getD i Gr0) g
  have hb : (out.length + 1) * 32 ≤ 140737488355328 := by omega
  have hb2 : (out.length + 1 + 1) * 32 ≤ 140737488355328 := Nat.le_trans (Nat.mul_le_mul_right 32 (show out.length + 1 + 1 ≤ 100003 by omega)) (by decide)
  cases dn
  all_goals
    simp only [forall_const, reduceCtorEq, false_implies] at hd
    have F := (And.intro @hg (And.intro @hb (And.intro @hb2 @allEq2)))
    refine rn F ?_
    repeat' (first
      | with_reducible exact ⟨⟩
      | (refine sG F ?_ ?_ <;> intro hZ)
      | (refine sB F ?_ ?_ <;> intro hZ)
      | refine vp F (c) ?_
      | (refine vspine (id := 6) [0, 1, 2, 3, 4, 5, 6, 7] [⟨[], [], 8, [0, 1, 3, 4, 5], [9, 10]⟩] (by kernel_rfl) (by kernel_rfl) ?_; refine rn F ?_)
      | (refine vspine (id := 9) [0, 1, 2, 3, 4, 5, 6, 7, 8, 9, 10, 11, 12, 13, 14, 15, 16, 17] [] (by kernel_rfl) (by kernel_rfl) ?_; refine rn F ?_))
  all_goals first
    | exact ⟨rfl, rfl, out, rfl, by omega⟩
    | exact ⟨rfl, rfl, out ++ [g], rfl, by simp; omega⟩
    | exact ⟨⟨(i + 1, out, false), by dsimp only; omega, by dsimp only; (try rw [List.length_nil]); omega, by dsimp only; (try rw [List.length_nil]); first | omega | (intro h; omega) | (intro h; cases h)⟩, by dsimp only; omega, by dsimp only; (try rw [List.length_nil]); exact (gc [0, 1])⟩
    | exact ⟨⟨(i + 1, out ++ [⟨(l.getD i Gr0).tx, (l.getD i Gr0).pg, (l.getD i Gr0).sl, (l.getD i Gr0).md⟩], false), by dsimp only; omega, by dsimp only; (try rw [List.length_append, List.length_cons, List.length_nil]); omega, by dsimp only; (try rw [List.length_append, List.length_cons, List.length_nil]); first | omega | (intro h; omega) | (intro h; cases h)⟩, by dsimp only; omega, by dsimp only; (try rw [List.length_append, List.length_cons, List.length_nil]); exact (gc [0, 3])⟩
    | exact ⟨⟨(i + 1, out, true), by dsimp only; omega, by dsimp only; (try rw [List.length_nil]); omega, by dsimp only; (try rw [List.length_nil]); first | omega | (intro h; omega) | (intro h; cases h)⟩, by dsimp only; omega, by dsimp only; (try rw [List.length_nil]); exact (gc [0, 1])⟩
    | exact ⟨⟨(i + 1, out ++ [⟨(l.getD i Gr0).tx, (l.getD i Gr0).pg, (l.getD i Gr0).sl, (l.getD i Gr0).md⟩], true), by dsimp only; omega, by dsimp only; (try rw [List.length_append, List.length_cons, List.length_nil]); omega, by dsimp only; (try rw [List.length_append, List.length_cons, List.length_nil]); first | omega | (intro h; omega) | (intro h; cases h)⟩, by dsimp only; omega, by dsimp only; (try rw [List.length_append, List.length_cons, List.length_nil]); exact (gc [0, 3])⟩
    | exact ⟨⟨(i + 1, out ++ [g], true), by dsimp only; omega, by dsimp only; (try rw [List.length_append, List.length_cons, List.length_nil]); omega, by dsimp only; (try rw [List.length_append, List.length_cons, List.length_nil]); first | omega | (intro h; omega) | (intro h; cases h)⟩, by dsimp only; omega, by dsimp only; (try rw [List.length_append, List.length_cons, List.length_nil]); exact (gc [0, 3])⟩
    | exact ⟨⟨(i + 1, out ++ [g] ++ [⟨(l.getD i Gr0).tx, (l.getD i Gr0).pg, (l.getD i Gr0).sl, (l.getD i Gr0).md⟩], true), by dsimp only; omega, by dsimp only; (try rw [List.length_append, List.length_append, List.length_cons, List.length_nil, List.length_cons, List.length_nil]); omega, by dsimp only; (try rw [List.length_append, List.length_append, List.length_cons, List.length_nil, List.length_cons, List.length_nil]); first | omega | (intro h; omega) | (intro h; cases h)⟩, by dsimp only; omega, by dsimp only; (try rw [List.length_append, List.length_append, List.length_cons, List.length_nil, List.length_cons, List.length_nil]); exact (gc [0, 5])⟩
    | skip
section
attribute [local go_sem] frzHeap
def Lk.sum (t : Lk) : Nat := t.held.length + t.wait.length
theorem rsettle_w (t : Lk) (hs : t.sum ≤ 5000) : VCalls prog 172 [.agg t.d] [] (RetS (fun u : Lk => .agg u.d) fun u => u.sum ≤ t.sum) := by
  refine dk Tryz.func172 ?_
  (unfold Tryz.f172; refine rn trivial ?_)
  refine vloopN (fun s : {s : Lk × Nat // s.2 ≤ s.1.wait.length ∧ s.1.sum ≤ t.sum} => ⟨36, 0, [(3, .int .i64 s.1.2), (2, .ptr 1 0), (1, .ptr 0 0)], [⟨76, true, s.1.1.d⟩, ⟨76, true, [.pv (.slc []), .pv (.slc [])]⟩]⟩) (fun s => s.1.1.wait.length * 5001 + (s.1.1.wait.length - s.1.2)) ⟨(t, 0), Nat.zero_le _, Nat.le_refl _⟩ (.inl (by exact (gc [0, 1]))) ?_
  rintro ⟨⟨⟨l, w⟩, i⟩, hi, hsum⟩
  unfold Lk.sum at *
  dsimp only at hi hsum ⊢
  have hgx := fun h : i < w.length => fzG_at w i h
  have c1 := fun h : i < w.length => rable_w ⟨l, w⟩ ⟨by dsimp only; omega, by dsimp only; omega⟩ i h
  have c2 := rhold_w l (by omega)
  have hb : (i + (w.length - (i + 1))) * 32 ≤ 140737488355328 := by omega
  have hb1 : i * 32 ≤ 140737488355328 := by omega
  have hmin : i < w.length → min i w.length = i := fun h => by omega
  have F := (And.intro @hgx (And.intro @hb (And.intro @hb1 @hmin)))
  refine rn F ?_
  repeat' (first
    | with_reducible exact ⟨⟩
    | (refine sB F ?_ ?_ <;> intro hZ)
    | (refine vc_S (c1 (by omega)) rfl ?_; rintro b -; refine rn F ?_)
    | (refine vc_S (c2 ⟨_, _, _, _⟩) rfl ?_; rintro m hm; refine rn F ?_)
    | (refine vspine (id := 5) [0, 1, 2, 3, 4, 5, 6] [⟨[], [], 7, [0, 2, 3, 4, 5], [8]⟩, ⟨[], [], 9, [], []⟩] (by kernel_rfl) (by kernel_rfl) ?_; refine rn F ?_)
    | (refine vspine (id := 6) [0, 1, 2, 3, 5, 6, 7, 8, 9] [⟨[], [], 4, [0, 1, 2, 5, 6, 7, 8, 9], []⟩, ⟨[], [], 10, [0, 1, 2, 3, 5, 6, 7, 8], [11]⟩, ⟨[], [], 12, [], []⟩] (by kernel_rfl) (by kernel_rfl) ?_; refine rn F ?_))
  · have hl : (w.take i ++ w.drop (i + 1)).length = i + (w.length - (i + 1)) := by rw [List.length_append, List.length_take, List.length_drop]; omega
    refine ⟨⟨(⟨m, w.take i ++ w.drop (i + 1)⟩, 0), Nat.zero_le _, by dsimp only; rw [hl]; omega⟩, by dsimp only; rw [hl]; omega, ?_⟩
    dsimp only
    generalize w.take i ++ w.drop (i + 1) = L at *
    generalize i + (w.length - (i + 1)) = n at *
    refine .inr ⟨2, ⟨36, 0, [(3, .int .i64 0), (2, .ptr 1 0), (1, .ptr 0 0)], [⟨76, true, [.pv (.sl (fz encG m)), .own 2 4 0 n]⟩, ⟨76, true, [.pv (.slc []), .pv (.slc [])]⟩, ⟨213, true, cells encG L⟩]⟩, (gc [0, 1, 3]), ⟨rfl, rfl, Nat.zero_le _, by simp, ?_, ⟨rfl, rfl, rfl, trivial⟩⟩⟩
    (refine rn @hl ?_; try with_reducible exact ⟨⟩)
  · exact ⟨⟨(⟨l, w⟩, i + 1), by dsimp only; omega, by dsimp only; omega⟩, by dsimp only; omega, .inl (gc [0, 1])⟩
  · exact ⟨rfl, rfl, ⟨l, w⟩, rfl, hsum⟩
theorem rplace_w (t : Lk) (hs : t.sum ≤ 5000) (g : Gr) : VCalls prog 228 [.agg t.d, .agg g.d] [] (RetS (fun n : Nat => .int .i64 n) fun n => n ≤ t.wait.length) := by
  refine dd Tryz.func228 ?_
  unfold Lk.sum at hs
  have c1 := rmodG_v t (by omega)
  obtain ⟨l, w⟩ := t
  dsimp only at hs c1 ⊢
  generalize hm : modG l = M at *
  (unfold Tryz.f228; refine rn trivial ?_)
  refine rn F ?_
  repeat' (first
    | with_reducible exact ⟨⟩
    | (refine sB F ?_ ?_ <;> intro hZ)
    | refine vp F (c1 _ _ _) ?_)
  · exact ⟨rfl, rfl, w.length, rfl, Nat.le_refl _⟩
  refine vloopW (fun s : To w.length => ⟨47, 0, [(5, .int .i64 s.i), (3, .ptr 1 0), (2, .ptr 0 0)], [⟨76, true, [.pv (.sl (fz encG l)), .pv (.sl (fz encG w))]⟩, ⟨213, true, g.d⟩]⟩) (fun s => w.length - s.i) ⟨0, Nat.zero_le _⟩ (gc [0, 1]) ?_
  intro s
  have hsi := s.hi
  have hg := fun h : s.i < w.length => fzG_at w s.i h
  have F := (And.intro @hg @allEq2)
  refine rn F ?_
  repeat' (first
    | with_reducible exact ⟨⟩
    | (refine sG F ?_ ?_ <;> intro hZ)
    | (refine sB F ?_ ?_ <;> intro hZ)
    | refine vp F (c1 _ _ _) ?_)
  all_goals first
    | exact ⟨rfl, rfl, s.i, rfl, by omega⟩
    | exact ⟨⟨s.i + 1, by omega⟩, by dsimp only; omega, (gc [0, 1])⟩
    | exact ⟨rfl, rfl, w.length, rfl, Nat.le_refl _⟩
    | skip
end
theorem rlkvalid_w (t : Lk) (hs : t.sum ≤ 100000) : VCalls prog 164 [.agg t.d] [] (RetS (fun b : Bool => .bool b) fun b => b = true → t.sum ≤ 1024) := by
  refine dd Tryz.func164 ?_
  unfold Lk.sum at *
  have cm := rmodG_v t (by omega)
  obtain ⟨l, w⟩ := t
  dsimp only at hs cm ⊢
  generalize hM : modG l = M at *
  (unfold Tryz.f164; refine rn trivial ?_)
  refine rn F ?_
  repeat' (first
    | with_reducible exact ⟨⟩
    | (refine sB F ?_ ?_ <;> intro hZ))
  · exact ⟨rfl, rfl, false, rfl, fun h => by cases h⟩
  refine vloopW (fun s : To l.length => ⟨121, 0, [(3, .int .i64 s.i), (1, .ptr 0 0)], [⟨76, true, [.pv (.sl (fz encG l)), .pv (.sl (fz encG w))]⟩]⟩) (fun s => l.length - s.i) ⟨0, Nat.zero_le _⟩ (gc [0]) ?_
  rintro ⟨i, hi⟩
  dsimp only
  have hg := fun h : i < l.length => fzG_at l i h
  have hgp := fun h : i - 1 < l.length => fzG_at l (i - 1) h
  have c1 := rgrB_v (l.getD i Gr0)
  have c2 := rlessG_v (l.getD (i - 1) Gr0) (l.getD i Gr0)
  have c3 := fun a => rconfG_v a (l.getD i Gr0)
  have F := (And.intro @hg @hgp)
  refine rn F ?_
  repeat' (first
    | with_reducible exact ⟨⟩
    | (refine sG F ?_ ?_ <;> intro hZ)
    | (refine sB F ?_ ?_ <;> intro hZ)
    | refine vp F (c1) ?_
    | refine vp F (c2) ?_
    | (refine vspineT (id := 6) [[], [0], [], [0, 1, 2], [0, 1, 2, 3], [0, 1, 2, 3, 4], [0, 1, 2, 3, 4, 5], [0, 1, 2, 3, 4, 5, 6], [0, 1, 2, 3, 4, 5, 6, 7], [0, 1, 2, 3, 4, 5, 6, 7, 8], [0, 1, 2, 3, 4, 5, 6, 7, 8, 9], [0, 1, 2, 3, 4, 5, 6, 7, 8, 9, 10], [0, 1, 2, 3, 4, 5, 6, 7, 8, 9, 10, 11], [0, 1, 2, 3, 4, 5, 6, 7, 8, 9, 10], [0, 1, 2, 3, 4, 5, 6, 7, 8, 9, 10, 13], [0, 1, 2, 3, 4, 5, 6, 7, 8, 9, 10, 11, 12, 13, 14], [0, 1, 2, 3, 4, 5, 6, 7, 8, 9, 10, 11, 12, 13, 14, 15], [0, 1, 2, 3, 4, 5, 6, 7, 8, 9, 10], [0, 1, 2, 3, 4, 5, 6, 7, 8, 9, 10, 17], [0, 1, 2, 3, 4, 5, 6, 7, 8, 9, 10], [0, 1, 2, 3, 4, 5, 6, 7, 8, 9, 10, 17, 18, 19], [0, 1, 2, 3, 4, 5, 6, 7, 8, 9, 10, 17, 18, 19, 20], [0, 1, 2, 3, 4, 5, 6, 7, 8, 9, 10, 11, 12, 13, 14, 15, 16, 17, 18, 19, 20, 21], [0, 1, 2, 3, 4, 5, 6, 7, 8, 9, 10, 11, 12, 13, 14, 15, 16, 17, 18, 19, 20, 21, 22], [0, 1, 2, 3, 4, 5, 6, 7, 8, 9, 10, 11, 12, 13, 14, 15, 16, 17, 18, 19, 20, 21, 22, 23], [0, 1, 2, 3, 4, 5, 6, 7, 8, 9, 10, 11, 12, 13, 14, 15, 16, 17, 18, 19, 20, 21, 22, 23, 24]] [0, 1, 2, 3, 4] [⟨[], [], 5, [], [6, 7, 8, 9, 10, 11, 12, 13, 14, 15, 16, 17, 18, 19, 20, 21]⟩, ⟨[], [], 22, [], [23, 24, 25]⟩] (by kernel_rfl) (by kernel_rfl) (by kernel_rfl) ?_; refine rn F ?_))
  all_goals first
    | exact ⟨rfl, rfl, false, rfl, fun h => by cases h⟩
    | skip
  rotate_left 2
  · refine vloopW (fun s : To w.length => ⟨121, 0, [(5, .int .i64 s.i), (1, .ptr 0 0)], [⟨76, true, [.pv (.sl (fz encG l)), .pv (.sl (fz encG w))]⟩]⟩) (fun s => w.length - s.i) ⟨0, Nat.zero_le _⟩ (gc [0]) ?_
    rintro ⟨j, hj⟩
    dsimp only
    have hw := fun h : j < w.length => fzG_at w j h
    have d1 := rgrB_v (w.getD j Gr0)
    have F := (And.intro @hw @allEq2)
    refine rn F ?_
    repeat' (first
      | with_reducible exact ⟨⟩
      | (refine sG F ?_ ?_ <;> intro hZ)
      | (refine sB F ?_ ?_ <;> intro hZ)
      | refine vp F (d1) ?_
      | refine vp F (cm _ _ _) ?_
      | (refine vspineT (id := 17) [[], [0], [0, 1], [0, 1, 2], [0, 1, 2, 3], [0, 1, 2, 3], [0, 1, 2, 3, 5], [0, 1, 2, 3], [0, 1, 2, 3, 7], [0, 1, 2, 3, 4, 5, 6, 7, 8], [0, 1, 2, 3], [0, 1, 2, 3, 10], [0, 1, 2, 3, 4, 5, 6, 7, 8, 9, 10, 11], [0, 1, 2, 3, 4, 5, 6, 7, 8, 9, 10, 11, 12]] [0] [⟨[], [], 1, [], [2, 3, 4, 5, 6, 7, 8, 10, 11]⟩, ⟨[], [], 9, [10, 11], [12, 13]⟩] (by kernel_rfl) (by kernel_rfl) (by kernel_rfl) ?_; refine rn F ?_))
    all_goals first
      | exact ⟨rfl, rfl, false, rfl, fun h => by cases h⟩
      | exact ⟨rfl, rfl, true, rfl, fun _ => by omega⟩
      | skip
    all_goals
      refine vloopW (fun s : To j => ⟨121, 0, [(7, .int .i64 s.i), (6, .ptr 1 0), (5, .int .i64 j), (1, .ptr 0 0)], [⟨76, true, [.pv (.sl (fz encG l)), .pv (.sl (fz encG w))]⟩, ⟨213, true, Gr.d ⟨(w.getD j Gr0).tx, (w.getD j Gr0).pg, (w.getD j Gr0).sl, (w.getD j Gr0).md⟩⟩]⟩) (fun s => j - s.i) ⟨0, Nat.zero_le _⟩ (gc [0, 1]) ?_
      rintro ⟨k, hk⟩
      dsimp only
      have hx := fun h : k < w.length => fzG_at w k h
      have F := @hx
      refine rn F ?_
      repeat' (first
        | with_reducible exact ⟨⟩
        | (refine sB F ?_ ?_ <;> intro hZ)
        | (refine vspine (id := 22) [0, 1, 2, 3, 4, 5, 6, 7, 8] [] (by kernel_rfl) (by kernel_rfl) ?_; refine rn F ?_))
    all_goals first
      | exact ⟨rfl, rfl, false, rfl, fun h => by cases h⟩
      | exact ⟨⟨k + 1, by omega⟩, by dsimp only; omega, (gc [0, 1])⟩
      | exact ⟨⟨j + 1, by omega⟩, by dsimp only; omega, (gc [0])⟩
      | skip
  all_goals
    refine vloopW (fun s : To i => ⟨121, 0, [(4, .int .i64 ((s.i : Int) - 1)), (3, .int .i64 i), (1, .ptr 0 0)], [⟨76, true, [.pv (.sl (fz encG l)), .pv (.sl (fz encG w))]⟩]⟩) (fun s => s.i) ⟨i, Nat.le_refl _⟩ (gc [0]) ?_
    rintro ⟨r, hr⟩
    dsimp only
    have hx := fun h : r - 1 < l.length => fzG_at l (r - 1) h
    have c4 := c3 (l.getD (r - 1) Gr0)
    have F := (And.intro @hg (And.intro @hx @allEq2))
    refine rn F ?_
    repeat' (first
      | with_reducible exact ⟨⟩
      | (refine sG F ?_ ?_ <;> intro hZ)
      | (refine sB F ?_ ?_ <;> intro hZ)
      | refine vp F (c4) ?_
      | (refine vspine (id := 9) [0, 1, 2, 3, 4, 5, 6, 7, 8, 9, 10, 11, 12, 13, 14, 15, 16] [] (by kernel_rfl) (by kernel_rfl) ?_; refine rn F ?_)
      | (refine vspine (id := 11) [0, 1, 2, 3, 4, 5, 6, 7, 8, 9] [⟨[], [], 10, [0, 1, 2, 3, 5, 6, 7, 8], []⟩] (by kernel_rfl) (by kernel_rfl) ?_; refine rn F ?_))
  all_goals first
    | exact ⟨rfl, rfl, false, rfl, fun h => by cases h⟩
    | exact ⟨⟨i + 1, by omega⟩, by dsimp only; omega, (gc [0])⟩
    | (refine ⟨⟨r - 1, by omega⟩, by dsimp only; omega, ?_⟩
       dsimp only
       rw [show ((r - 1 : Nat) : Int) - 1 = (r : Int) - 1 - 1 by omega]
       exact (gc [0]))
    | skip
theorem rwaiting_w (t : Lk) (hs : t.sum ≤ 5000) (tx : Int) : VCalls prog 138 [.agg t.d, .int .i64 tx] [] (RetS (fun a : Gr × Bool => .tup [.agg a.1.d, .bool a.2]) fun _ => True) := by
  refine dd Tryz.func138 ?_
  have c1 := rlkvalid_w t (by omega)
  unfold Lk.sum at *
  obtain ⟨l, w⟩ := t
  dsimp only at hs c1 ⊢
  (unfold Tryz.f138; refine rn trivial ?_)
  refine rn F ?_
  repeat' (first
    | with_reducible exact ⟨⟩
    | (refine sB F ?_ ?_ <;> intro hZ)
    | (refine vc_S (c1) rfl ?_; rintro b hb; refine rn F ?_))
  all_goals first
    | exact ⟨rfl, rfl, (Gr0, false), rfl, trivial⟩
    | skip
  refine vloopW (fun s : To w.length => ⟨30, 0, [(6, .int .i64 s.i), (4, .ptr 1 0), (2, .ptr 0 0), (1, .int .i64 tx)], [⟨76, true, [.pv (.sl (fz encG l)), .pv (.sl (fz encG w))]⟩, ⟨213, true, [.int .i64 0, .int .i64 0, .int .i64 0, .int .i64 0]⟩]⟩) (fun s => w.length - s.i) ⟨0, Nat.zero_le _⟩ (gc [0, 1]) ?_
  rintro ⟨i, hi⟩
  dsimp only
  have hg := fun h : i < w.length => fzG_at w i h
  have F := @hg
  refine rn F ?_
  repeat' (first
    | with_reducible exact ⟨⟩
    | (refine sB F ?_ ?_ <;> intro hZ))
  all_goals first
    | exact ⟨⟨i + 1, by omega⟩, by dsimp only; omega, (gc [0, 1])⟩
    | exact ⟨rfl, rfl, (Gr0, false), rfl, trivial⟩
    | exact ⟨rfl, rfl, (w.getD i Gr0, true), rfl, trivial⟩
    | skip
theorem rrelease_w (t : Lk) (hs : t.sum ≤ 5000) (tx : Int) : VCalls prog 130 [.agg t.d, .int .i64 tx] [] (RetS (fun u : Lk => .agg u.d) fun u => u.sum ≤ t.sum) := by
  refine dd Tryz.func130 ?_
  have c1 := rlkvalid_w t (by omega)
  have c4 := rsettle_w
  unfold Lk.sum at *
  obtain ⟨l, w⟩ := t
  dsimp only at hs c1 ⊢
  have c2 := fun a => rleft_w l (by omega) a
  have c3 := fun a => rleft_w w (by omega) a
  (unfold Tryz.f130; refine rn trivial ?_)
  refine rn F ?_
  repeat' (first
    | with_reducible exact ⟨⟩
    | (refine sB F ?_ ?_ <;> intro hZ)
    | (refine vc_S (c1) rfl ?_; rintro b hb; refine rn F ?_)
    | (refine vc_S (c2 _ _ _ _) rfl ?_; rintro m1 hm1; refine rn F ?_)
    | (refine vc_S (c3 _ _ _ _) rfl ?_; rintro m2 hm2; refine rn F ?_)
    | (refine vc_S (c4 ⟨_, _⟩ (by dsimp only; omega)) rfl ?_; rintro u hu; refine rn F ?_)
    | (refine vspine (id := 3) [0, 1, 2, 3, 5, 6, 7, 8] [⟨[], [], 4, [0, 5, 6, 7, 8], []⟩, ⟨[], [], 9, [0, 1, 2, 3, 5], [10]⟩, ⟨[], [], 11, [0, 1, 2, 3, 5, 6, 7, 8], []⟩, ⟨[], [], 12, [], []⟩] (by kernel_rfl) (by kernel_rfl) ?_; refine rn F ?_))
  all_goals first
    | exact ⟨rfl, rfl, ⟨l, w⟩, rfl, Nat.le_refl _⟩
    | (exact ⟨rfl, rfl, u, rfl, by dsimp only at hu; omega⟩)
    | skip
theorem rcancel_w (t : Lk) (hs : t.sum ≤ 5000) (tx : Int) : VCalls prog 225 [.agg t.d, .int .i64 tx] [] (RetS (fun u : Lk => .agg u.d) fun u => u.sum ≤ t.sum) := by
  refine dd Tryz.func225 ?_
  have c1 := rlkvalid_w t (by omega)
  have c4 := rsettle_w
  unfold Lk.sum at *
  obtain ⟨l, w⟩ := t
  dsimp only at hs c1 ⊢
  have c3 := fun a => rleft_w w (by omega) a
  (unfold Tryz.f225; refine rn trivial ?_)
  refine rn F ?_
  repeat' (first
    | with_reducible exact ⟨⟩
    | (refine sB F ?_ ?_ <;> intro hZ)
    | (refine vc_S (c1) rfl ?_; rintro b hb; refine rn F ?_)
    | (refine vc_S (c3 _ _ _ _) rfl ?_; rintro m2 hm2; refine rn F ?_)
    | (refine vc_S (c4 ⟨_, _⟩ (by dsimp only; omega)) rfl ?_; rintro u hu; refine rn F ?_)
    | (refine vspine (id := 3) [0, 1, 2, 3, 4, 5] [⟨[], [], 6, [0, 1, 2], [7]⟩, ⟨[], [], 8, [0, 1, 2, 3, 4, 5], []⟩, ⟨[], [], 9, [], []⟩] (by kernel_rfl) (by kernel_rfl) ?_; refine rn F ?_))
  all_goals first
    | exact ⟨rfl, rfl, ⟨l, w⟩, rfl, Nat.le_refl _⟩
    | (exact ⟨rfl, rfl, u, rfl, by dsimp only at hu; omega⟩)
    | skip
theorem rdrop_w (t : Lk) (hs : t.sum ≤ 5000) (tx pg sl : Int) : VCalls prog 178 [.agg t.d, .int .i64 tx, .agg [.int .i64 pg, .int .i64 sl]] [] (RetS (fun u : Lk => .agg u.d) fun u => u.sum ≤ t.sum) := by
  refine dd Tryz.func178 ?_
  have c1 := rlkvalid_w t (by omega)
  have c4 := rsettle_w
  unfold Lk.sum at *
  obtain ⟨l, w⟩ := t
  dsimp only at hs c1 ⊢
  have c2 := fun a => rleft_w l (by omega) a
  (unfold Tryz.f178; refine rn trivial ?_)
  refine rn F ?_
  repeat' (first
    | with_reducible exact ⟨⟩
    | (refine sB F ?_ ?_ <;> intro hZ)
    | (refine vc_S (c1) rfl ?_; rintro b hb; refine rn F ?_)
    | (refine vc_S (c2 _ _ _ _) rfl ?_; rintro m1 hm1; refine rn F ?_)
    | (refine vc_S (c4 ⟨_, _⟩ (by dsimp only; omega)) rfl ?_; rintro u hu; refine rn F ?_)
    | (refine vspine (id := 3) [0, 1, 2, 3, 5, 6] [⟨[], [], 4, [0, 5, 6], [7]⟩, ⟨[], [], 8, [0, 1, 2, 3, 5, 6], []⟩, ⟨[], [], 9, [], []⟩] (by kernel_rfl) (by kernel_rfl) ?_; refine rn F ?_))
  all_goals first
    | exact ⟨rfl, rfl, ⟨l, w⟩, rfl, Nat.le_refl _⟩
    | (exact ⟨rfl, rfl, u, rfl, by dsimp only at hu; omega⟩)
    | skip
def reqW (a : Lk × Bool × Int) : DV := .tup [.agg a.1.d, .bool a.2.1, .int .i64 a.2.2]
def Lk0 : Lk := ⟨[], []⟩
theorem allEq4 (a b c d a' b' c' d' : Int) : allEq [.pv (.lit (.int .i64 a)), .pv (.lit (.int .i64 b)), .pv (.lit (.int .i64 c)), .pv (.lit (.int .i64 d))] [.pv (.lit (.int .i64 a')), .pv (.lit (.int .i64 b')), .pv (.lit (.int .i64 c')), .pv (.lit (.int .i64 d'))] [(0, 1), (1, 1), (2, 1), (3, 1)] = some (decide (a = a') && decide (b = b') && decide (c = c') && decide (d = d')) := by simp [allEq, leafEq, Bool.beq_eq_decide_eq, Bool.and_assoc]
theorem rrequest_w (t : Lk) (hs : t.sum ≤ 4000) (g : Gr) : VCalls prog 186 [.agg t.d, .agg g.d] [] (RetS reqW fun a => a.1.sum ≤ 1024) := by
  refine dk Tryz.func186 ?_
  have c1 := rlkvalid_w t (by omega)
  have c2 := rgrB_v g
  have c3 := rwaiting_w t (by omega) g.tx
  have c4 := rsettle_w
  have c5 := rplace_w t (by omega) g
  have c6 := fun (u : Lk) (h : u.held.length ≤ 1000000) => rmodG_v u h
  unfold Lk.sum at *
  obtain ⟨l, w⟩ := t
  dsimp only at hs c1 c5 ⊢
  generalize modG = M at *
  (unfold Tryz.f186; refine rn trivial ?_)
  have F := @allEq4
  refine rn F ?_
  repeat' (first
    | with_reducible exact ⟨⟩
    | (refine sG F ?_ ?_ <;> intro hZ)
    | (refine sB F ?_ ?_ <;> intro hZ)
    | (refine vc_S (c1) rfl ?_; rintro b hb; refine rn F ?_)
    | refine vp F (c2) ?_
    | (refine vc_S (c3) rfl ?_; rintro ⟨g0, b0⟩ -; refine rn F ?_)
    | (refine vp F (c6 ⟨_, _⟩ (by first | (dsimp only; omega) | (dsimp only at hu ⊢; simp only [List.length_append, List.length_take, List.length_drop, List.length_cons, List.length_nil] at hu; omega)) _ _ _) ?_)
    | (refine vc_S (c5) rfl ?_; rintro n hn; refine rn F ?_)
    | (refine vc_giveS [7] _ _ (c4 ⟨l, w.take n ++ [⟨g.tx, g.pg, g.sl, g.md⟩] ++ w.drop n⟩ (by dsimp only; simp only [List.length_append, List.length_take, List.length_drop, List.length_cons, List.length_nil]; omega)) rfl ⟨⟨by simp, cells_nums _ _ _⟩, trivial⟩ (by decide) rfl (by simp [DV.nums.go, DV.nums]) ?_ ?_; (focus (refine rd F)); rintro ⟨ul, uw⟩ hu; refine rn F ?_)
    | (refine vspine (id := 10) [0, 1, 2, 3, 4, 6, 7] [⟨[], [], 5, [1, 3, 6, 7], [8]⟩] (by kernel_rfl) (by kernel_rfl) ?_; refine rn F ?_)
    | (refine vspine (id := 15) [0, 1, 2, 3, 5, 8, 9, 10, 11] [⟨[6], [], 4, [0, 1, 2, 5, 8, 9, 10, 11], []⟩, ⟨[6], [6], 7, [0, 1, 2, 3, 5, 8, 9, 10, 11], []⟩, ⟨[], [], 12, [0, 1, 2, 3, 5, 8, 9, 10], [13]⟩, ⟨[], [], 14, [], []⟩] (by kernel_rfl) (by kernel_rfl) ?_; refine rn F ?_)
    | (refine vspine (id := 17) [0, 1, 2, 3, 4, 5, 7, 8] [⟨[], [], 6, [0, 2, 4, 7, 8], [9]⟩, ⟨[], [], 10, [1, 2, 3, 4, 5, 7, 8, 9], []⟩, ⟨[], [], 11, [], []⟩, ⟨[], [], 12, [], []⟩] (by kernel_rfl) (by kernel_rfl) ?_; refine rn F ?_))
  all_goals first
    | exact ⟨rfl, rfl, (⟨ul, uw⟩, _, _), rfl, by have := hb (by first | assumption | rfl); dsimp only [List.length_append] at hu ⊢; simp only [List.length_append, List.length_take, List.length_drop, List.length_cons, List.length_nil] at hu; omega⟩
    | exact ⟨rfl, rfl, (Lk0, false, _), rfl, by simp [Lk0]⟩
    | exact ⟨rfl, rfl, (⟨l, w⟩, _, _), rfl, hb (by first | assumption | rfl)⟩
    | skip
attribute [go_sem] allI slkI srcI app_I
@[go_sem] def ilD (l : List Int) : DV := .pv (.sl (fz encI l))
theorem rwith_w (l : List Int) (hl : l.length ≤ 100000) (n : Int) : VCalls prog 191 [.pv (.sl (fz encI l)), .int .i64 n] [] (RetS ilD fun m => m.length ≤ l.length + 1) := by
  refine dd Tryz.func191 ?_
  (unfold Tryz.f191; refine rn trivial ?_)
  refine VLoop.nilOwn 5 3 1 rfl ?_
  refine rn trivial ?_
  refine vloopW (fun s : {s : Nat × List Int × Bool // s.1 ≤ l.length ∧ s.2.1.length ≤ s.1 + 1 ∧ (s.2.2 = false → s.2.1.length ≤ s.1)} => ⟨48, 0, [(7, .int .i64 s.1.1), (6, .bool s.1.2.2), (5, .own 0 1 0 s.1.2.1.length), (1, .int .i64 n), (0, .pv (.sl (fz encI l)))], [⟨3, true, cells encI s.1.2.1⟩]⟩) (fun s => l.length - s.1.1) ⟨(0, [], false), by simp⟩ (gc [0]) ?_
  rintro ⟨⟨i, out, dn⟩, hi, ho, hd⟩
  dsimp only at hi ho hd ⊢
  have hg := fun h : i < l.length => fzI_get l i h
  have hb : (out.length + 1) * 8 ≤ 140737488355328 := Nat.le_trans (Nat.mul_le_mul_right 8 (show out.length + 1 ≤ 100003 by omega)) (by decide)
  have hb2 : (out.length + 1 + 1) * 8 ≤ 140737488355328 := Nat.le_trans (Nat.mul_le_mul_right 8 (show out.length + 1 + 1 ≤ 100003 by omega)) (by decide)
  cases dn
  all_goals
    simp only [forall_const, reduceCtorEq, false_implies] at hd
    have F := (And.intro @hg (And.intro @hb @hb2))
    refine rn F ?_
    repeat' (first
      | with_reducible exact ⟨⟩
      | (refine sB F ?_ ?_ <;> intro hZ))
  all_goals first
    | exact ⟨rfl, rfl, out, rfl, by omega⟩
    | exact ⟨rfl, rfl, out ++ [n], rfl, by simp; omega⟩
    | exact ⟨⟨(i + 1, out, false), by dsimp only; omega, by dsimp only; (try rw [List.length_nil]); omega, by dsimp only; (try rw [List.length_nil]); first | omega | (intro h; omega) | (intro h; cases h)⟩, by dsimp only; omega, by dsimp only; (try rw [List.length_nil]); exact (gc [0])⟩
    | exact ⟨⟨(i + 1, out ++ [l.getD i 0], false), by dsimp only; omega, by dsimp only; (try rw [List.length_append, List.length_cons, List.length_nil]); omega, by dsimp only; (try rw [List.length_append, List.length_cons, List.length_nil]); first | omega | (intro h; omega) | (intro h; cases h)⟩, by dsimp only; omega, by dsimp only; (try rw [List.length_append, List.length_cons, List.length_nil]); exact (gc [2])⟩
    | exact ⟨⟨(i + 1, out, true), by dsimp only; omega, by dsimp only; (try rw [List.length_nil]); omega, by dsimp only; (try rw [List.length_nil]); first | omega | (intro h; omega) | (intro h; cases h)⟩, by dsimp only; omega, by dsimp only; (try rw [List.length_nil]); exact (gc [0])⟩
    | exact ⟨⟨(i + 1, out ++ [l.getD i 0], true), by dsimp only; omega, by dsimp only; (try rw [List.length_append, List.length_cons, List.length_nil]); omega, by dsimp only; (try rw [List.length_append, List.length_cons, List.length_nil]); first | omega | (intro h; omega) | (intro h; cases h)⟩, by dsimp only; omega, by dsimp only; (try rw [List.length_append, List.length_cons, List.length_nil]); exact (gc [2])⟩
    | exact ⟨⟨(i + 1, out ++ [n], true), by dsimp only; omega, by dsimp only; (try rw [List.length_append, List.length_cons, List.length_nil]); omega, by dsimp only; (try rw [List.length_append, List.length_cons, List.length_nil]); first | omega | (intro h; omega) | (intro h; cases h)⟩, by dsimp only; omega, by dsimp only; (try rw [List.length_append, List.length_cons, List.length_nil]); exact (gc [2])⟩
    | exact ⟨⟨(i + 1, out ++ [n] ++ [l.getD i 0], true), by dsimp only; omega, by dsimp only; (try rw [List.length_append, List.length_append, List.length_cons, List.length_nil, List.length_cons, List.length_nil]); omega, by dsimp only; (try rw [List.length_append, List.length_append, List.length_cons, List.length_nil, List.length_cons, List.length_nil]); first | omega | (intro h; omega) | (intro h; cases h)⟩, by dsimp only; omega, by dsimp only; (try rw [List.length_append, List.length_append, List.length_cons, List.length_nil, List.length_cons, List.length_nil]); exact (gc [4])⟩
    | skip
theorem rwaiters_w (t : Lk) (hs : t.sum ≤ 5000) : VCalls prog 230 [.agg t.d] [] (RetS ilD fun m => m.length ≤ t.sum) := by
  refine dk Tryz.func230 ?_
  have c1 := rlkvalid_w t (by omega)
  unfold Lk.sum at *
  obtain ⟨l, w⟩ := t
  dsimp only at hs c1 ⊢
  (unfold Tryz.f230; refine rn trivial ?_)
  refine rn F ?_
  repeat' (first
    | with_reducible exact ⟨⟩
    | (refine sB F ?_ ?_ <;> intro hZ)
    | (refine vc_S (c1) rfl ?_; rintro b -; refine rn F ?_))
  all_goals first
    | exact ⟨rfl, rfl, [], rfl, by simp⟩
    | skip
  refine VLoop.wkS ?_
  refine rn trivial ?_
  refine vloopW (fun s : {s : Nat × List Int // s.1 ≤ w.length ∧ s.2.length ≤ s.1} => ⟨23, 0, [(4, .int .i64 s.1.1), (3, .pv (.sl (fz encI s.1.2))), (1, .ptr 0 0)], [⟨76, true, [.pv (.sl (fz encG l)), .pv (.sl (fz encG w))]⟩]⟩) (fun s => w.length - s.1.1) ⟨(0, []), by simp⟩ (gc [0]) ?_
  rintro ⟨⟨i, out⟩, hi, ho⟩
  dsimp only at hi ho ⊢
  have hg := fun h : i < w.length => fzG_at w i h
  have c2 := rwith_w out (by omega)
  have F := @hg
  refine rn F ?_
  repeat' (first
    | with_reducible exact ⟨⟩
    | (refine sB F ?_ ?_ <;> intro hZ)
    | (refine vc_S (c2 _) rfl ?_; rintro m hm; refine rn F ?_))
  all_goals first
    | exact ⟨⟨(i + 1, m), by dsimp only; omega, by dsimp only; omega⟩, by dsimp only; omega, (gc [0])⟩
    | exact ⟨rfl, rfl, out, rfl, by omega⟩
    | skip
theorem rfor_w (t : Lk) (hs : t.sum ≤ 5000) (tx : Int) : VCalls prog 139 [.agg t.d, .int .i64 tx] [] (RetS ilD fun m => m.length ≤ t.sum) := by
  refine dk Tryz.func139 ?_
  have c1 := rwaiting_w t (by omega) tx
  unfold Lk.sum at *
  obtain ⟨l, w⟩ := t
  dsimp only at hs c1 ⊢
  (unfold Tryz.f139; refine rn trivial ?_)
  refine rn F ?_
  repeat' (first
    | with_reducible exact ⟨⟩
    | (refine sB F ?_ ?_ <;> intro hZ)
    | (refine vc_S (c1) rfl ?_; rintro ⟨g, b⟩ -; refine rn F ?_))
  all_goals first
    | exact ⟨rfl, rfl, [], rfl, by simp⟩
    | skip
  refine VLoop.wkS ?_
  refine rn trivial ?_
  refine vloopW (fun s : {s : Nat × List Int // s.1 ≤ l.length ∧ s.2.length ≤ s.1} => ⟨73, 0, [(8, .int .i64 s.1.1), (7, .pv (.sl (fz encI s.1.2))), (5, .ptr 1 0), (2, .ptr 0 0), (1, .int .i64 tx)], [⟨76, true, [.pv (.sl (fz encG l)), .pv (.sl (fz encG w))]⟩, ⟨213, true, g.d⟩]⟩) (fun s => l.length - s.1.1) ⟨(0, []), by simp⟩ (gc [0, 1]) ?_
  rintro ⟨⟨i, out⟩, hi, ho⟩
  dsimp only at hi ho ⊢
  have hg := fun h : i < l.length => fzG_at l i h
  have c2 := rwith_w out (by omega)
  have c3 := rconfG_v (l.getD i Gr0) g
  have F := @hg
  refine rn F ?_
  repeat' (first
    | with_reducible exact ⟨⟩
    | (refine sB F ?_ ?_ <;> intro hZ)
    | refine vp F (c3) ?_
    | (refine vc_S (c2 _) rfl ?_; rintro m hm; refine rn F ?_)
    | (refine vspine (id := 8) [0, 1, 2, 3, 4, 5] [⟨[], [], 6, [0, 1, 2, 3], []⟩] (by kernel_rfl) (by kernel_rfl) ?_; refine rn F ?_))
  all_goals first
    | exact ⟨⟨(i + 1, m), by dsimp only; omega, by dsimp only; omega⟩, by dsimp only; omega, (gc [0, 1])⟩
    | exact ⟨⟨(i + 1, out), by dsimp only; omega, by dsimp only; omega⟩, by dsimp only; omega, (gc [0, 1])⟩
    | skip
  clear c2 c3 hg
  refine vloopW (fun s : {s : Nat × List Int // s.1 ≤ w.length ∧ s.2.length ≤ l.length + s.1} => ⟨73, 0, [(9, .int .i64 s.1.1), (7, .pv (.sl (fz encI s.1.2))), (5, .ptr 1 0), (2, .ptr 0 0), (1, .int .i64 tx)], [⟨76, true, [.pv (.sl (fz encG l)), .pv (.sl (fz encG w))]⟩, ⟨213, true, g.d⟩]⟩) (fun s => w.length - s.1.1) ⟨(0, out), by dsimp only; omega⟩ (gc [0, 1]) ?_
  rintro ⟨⟨j, o2⟩, hj, ho2⟩
  dsimp only at hj ho2 ⊢
  have hg := fun h : j < w.length => fzG_at w j h
  have c2 := rwith_w o2 (by omega)
  have c3 := rconfG_v (w.getD j Gr0) g
  have F := @hg
  refine rn F ?_
  repeat' (first
    | with_reducible exact ⟨⟩
    | (refine sG F ?_ ?_ <;> intro hZ)
    | (refine sB F ?_ ?_ <;> intro hZ)
    | refine vp F (c3) ?_
    | (refine vc_S (c2 _) rfl ?_; rintro m hm; refine rn F ?_)
    | (refine vspine (id := 13) [0, 1, 2, 3, 4, 5] [⟨[], [], 6, [0, 1, 2, 3], []⟩] (by kernel_rfl) (by kernel_rfl) ?_; refine rn F ?_))
  all_goals first
    | exact ⟨⟨(j + 1, m), by dsimp only; omega, by dsimp only; omega⟩, by dsimp only; omega, (gc [0, 1])⟩
    | exact ⟨⟨(j + 1, o2), by dsimp only; omega, by dsimp only; omega⟩, by dsimp only; omega, (gc [0, 1])⟩
    | exact ⟨rfl, rfl, o2, rfl, by omega⟩
    | skip
theorem rfirst_w (l : List Int) : VCalls prog 232 [.pv (.sl (fz encI l))] [] (RetS (fun n : Int => .int .i64 n) fun _ => True) := by
  refine dd Tryz.func232 ?_
  have hg := fun h : 0 < l.length => fzI_get l 0 h
  (unfold Tryz.f232; refine rn trivial ?_)
  have F := @hg
  refine rn F ?_
  repeat' (first
    | with_reducible exact ⟨⟩
    | (refine sB F ?_ ?_ <;> intro hZ))
  all_goals first
    | exact ⟨rfl, rfl, _, rfl, trivial⟩
    | skip
theorem rclosed_w (t : Lk) (hs : t.sum ≤ 5000) (n : Nat) (hn : n ≤ 5000) : ∀ (k : Nat) (way : List Int), 0 < way.length → way.length + k = n → VCalls prog 231 [.agg t.d, .pv (.sl (fz encI way)), .int .i64 n] [] (RetS ilD fun m => m.length ≤ 5000) := by
  intro k
  induction k with
  | zero =>
    intro way h0 hk
    refine dk Tryz.func231 ?_
    have c1 := rfor_w t hs
    have hg := fzI_get way (way.length - 1) (by omega)
    have hg0 := fzI_get way 0 h0
    obtain rfl : n = way.length := by omega
    (unfold Tryz.f231; refine rn trivial ?_)
    have F := @hg
    refine rn F ?_
    repeat' (first
      | with_reducible exact ⟨⟩
      | (refine vc_S (c1 _) rfl ?_; rintro m hm; refine rn F ?_)
      | (refine vspine (id := 1) [0, 1, 2, 3, 4, 5, 6] [⟨[], [], 7, [1, 2, 3, 4, 5], []⟩, ⟨[], [], 8, [], []⟩] (by kernel_rfl) (by kernel_rfl) ?_; refine rn F ?_))
    refine vloopW (fun s : To m.length => ⟨74, 0, [(30, .int .i64 s.i), (29, .int .i64 m.length), (28, .pv (.sl (fz encI m))), (1, .pv (.sl (fz encI way)))], []⟩) (fun s => m.length - s.i) ⟨0, Nat.zero_le _⟩ (gc []) ?_
    rintro ⟨i, hi⟩
    dsimp only
    have hx := fun h : i < m.length => fzI_get m i h
    have F := (And.intro @hx @hg0)
    refine rn F ?_
    repeat' (first
      | with_reducible exact ⟨⟩
      | (refine sB F ?_ ?_ <;> intro hZ))
    all_goals first
      | exact ⟨⟨i + 1, by omega⟩, by dsimp only; omega, (gc [])⟩
      | exact ⟨rfl, rfl, way, rfl, by omega⟩
      | exact ⟨rfl, rfl, [], rfl, by simp⟩
      | skip
  | succ k ih =>
    intro way h0 hk
    refine dk Tryz.func231 ?_
    have c1 := rfor_w t hs
    have hg := fzI_get way (way.length - 1) (by omega)
    obtain rfl : n = way.length + (k + 1) := by omega
    have hne : ¬ (way.length : Int) = ((way.length + (k + 1) : Nat) : Int) := by omega
    (unfold Tryz.f231; refine rn trivial ?_)
    have F := (And.intro @hg @hne)
    refine rn F ?_
    repeat' (first
      | with_reducible exact ⟨⟩
      | (refine vc_S (c1 _) rfl ?_; rintro m hm; refine rn F ?_)
      | (refine vspine (id := 1) [0, 1, 2, 3, 4, 5, 6] [⟨[], [], 7, [1, 2, 3, 4, 5], []⟩, ⟨[], [], 8, [], []⟩] (by kernel_rfl) (by kernel_rfl) ?_; refine rn F ?_))
    refine vloopW (fun s : To m.length => ⟨74, 0, [(43, .int .i64 s.i), (42, .int .i64 m.length), (41, .pv (.sl (fz encI m))), (3, .ptr 0 0), (2, .int .i64 (way.length + (k + 1) : Nat)), (1, .pv (.sl (fz encI way)))], [⟨76, true, t.d⟩]⟩) (fun s => m.length - s.i) ⟨0, Nat.zero_le _⟩ (gc [0]) ?_
    rintro ⟨i, hi⟩
    dsimp only
    have hx := fun h : i < m.length => fzI_get m i h
    have F := @hx
    refine rn F ?_
    repeat' (first
      | with_reducible exact ⟨⟩
      | (refine sB F ?_ ?_ <;> intro hZ))
    rotate_left
    · exact ⟨rfl, rfl, [], rfl, by simp⟩
    generalize hv : m.getD i 0 = v at *
    refine vloopW (fun s : {s : Nat × Bool // s.1 ≤ way.length} => ⟨74, 0, [(49, .int .i64 s.1.1), (48, .int .i64 way.length), (47, .pv (.sl (fz encI way))), (43, .int .i64 i), (42, .int .i64 m.length), (41, .pv (.sl (fz encI m))), (12, .bool s.1.2), (11, .int .i64 v), (3, .ptr 0 0), (2, .int .i64 (way.length + (k + 1) : Nat)), (1, .pv (.sl (fz encI way)))], [⟨76, true, t.d⟩]⟩) (fun s => way.length - s.1.1) ⟨(0, false), Nat.zero_le _⟩ (gc [0]) ?_
    rintro ⟨⟨j, sn⟩, hj⟩
    dsimp only at hj ⊢
    have hy := fun h : j < way.length => fzI_get way j h
    have hb : (way.length + 1) * 8 ≤ 140737488355328 := Nat.le_trans (Nat.mul_le_mul_right 8 (show way.length + 1 ≤ 100003 by omega)) (by decide)
    have hb2 : way.length * 8 ≤ 140737488355328 := Nat.le_trans (Nat.mul_le_mul_right 8 (show way.length ≤ 100003 by omega)) (by decide)
    have ih2 := ih (way ++ [v]) (by simp) (by simp; omega)
    have F := (And.intro @hy (And.intro @hb @hb2))
    refine rn F ?_
    repeat' (first
      | with_reducible exact ⟨⟩
      | (refine sG F ?_ ?_ <;> intro hZ)
      | (refine sB F ?_ ?_ <;> intro hZ)
      | (refine vc_giveS [3] _ _ (ih2) rfl ⟨⟨by simp, cells_nums _ _ _⟩, trivial⟩ (by decide) rfl (by simp [DV.nums.go, DV.nums]) ?_ ?_; (focus (refine rd F)); rintro m2 hm2; refine rn F ?_)
      | (refine vspine (id := 20) [0, 1, 3, 6] [⟨[4], [], 2, [0, 3, 6], []⟩, ⟨[4], [4], 5, [0, 1, 3, 6], []⟩, ⟨[], [], 7, [1, 3], []⟩, ⟨[], [], 8, [], []⟩] (by kernel_rfl) (by kernel_rfl) ?_; refine rn F ?_))
    all_goals first
      | exact ⟨⟨(j + 1, v == way.getD j 0), by dsimp only; omega⟩, by dsimp only; omega, (gc [0])⟩
      | exact ⟨⟨(j + 1, true), by dsimp only; omega⟩, by dsimp only; omega, (gc [0])⟩
      | exact ⟨⟨i + 1, by omega⟩, by dsimp only; omega, (gc [0])⟩
      | exact ⟨rfl, rfl, m2, rfl, hm2⟩
      | skip
theorem rcycle_w (t : Lk) (hs : t.sum ≤ 5000) (tx : Int) : VCalls prog 188 [.agg t.d, .int .i64 tx] [] (RetS ilD fun m => m.length ≤ 5000) := by
  refine dk Tryz.func188 ?_
  have c1 := rwaiters_w t hs
  (unfold Tryz.f188; refine rn trivial ?_)
  refine vloopW (fun s : {s : Nat // 1 ≤ s ∧ s ≤ t.sum + 1} => ⟨23, 0, [(5, .int .i64 s.1), (2, .ptr 0 0), (1, .int .i64 tx)], [⟨76, true, t.d⟩]⟩) (fun s => t.sum + 1 - s.1) ⟨1, by omega⟩ (gc [0]) ?_
  rintro ⟨i, hi⟩
  dsimp only
  have c2 := fun (h : i ≤ 5000) => rclosed_w t hs i h (i - 1) [tx] (by simp) (by simp; omega)
  refine rn F ?_
  repeat' (first
    | with_reducible exact ⟨⟩
    | (refine sB F ?_ ?_ <;> intro hZ)
    | (refine vc_S (c1) rfl ?_; rintro m hm; refine rn F ?_))
  · rw [show ([.pv (.lit (.int .i64 tx))] : List DV) = cells encI [tx] from rfl]
    refine vc_giveS [1] _ _ (c2 (by omega)) rfl ⟨⟨by simp, cells_nums _ _ _⟩, trivial⟩ (by decide) rfl (by simp [DV.nums.go, DV.nums]) ?_ ?_
    · (refine rn trivial ?_; try with_reducible exact ⟨⟩)
    intro m2 hm2
    refine rn F ?_
    repeat' (first
      | with_reducible exact ⟨⟩
      | (refine sB F ?_ ?_ <;> intro hZ))
    · exact ⟨rfl, rfl, m2, rfl, hm2⟩
    · exact ⟨⟨i + 1, by omega⟩, by dsimp only; omega, (gc [0])⟩
  · exact ⟨rfl, rfl, [], rfl, by simp⟩
def Tx.ss (t : Tx) : Prop := t.l.length ≤ 100000 ∧ t.s.length ≤ 100000
theorem Tx.ss.sm {t : Tx} (h : t.ss) : t.sm := ⟨Nat.le_trans h.1 (by decide), Nat.le_trans h.2 (by decide)⟩
def smN (n : Nat) (l : List Tx) : Prop := l.length ≤ n ∧ ∀ t ∈ l, t.ss
theorem smN.smL {n : Nat} {l : List Tx} (h : smN n l) (hn : n ≤ 1000000) : smL l := ⟨Nat.le_trans h.1 hn, fun t ht => (h.2 t ht).sm⟩
theorem smN.mono {n m : Nat} {l : List Tx} (h : smN n l) (hn : n ≤ m) : smN m l := ⟨Nat.le_trans h.1 hn, h.2⟩
theorem smN_nil (n : Nat) : smN n [] := ⟨Nat.zero_le _, fun t h => by simp at h⟩
theorem tblB_smN {l : List Tx} (h : tblB l = true) : smN 64 l := ⟨tblB_len h, fun t ht => by
  obtain ⟨i, hi, rfl⟩ := List.getElem_of_mem ht
  have := okB_len (tblB_at h hi)
  exact ⟨by omega, by omega⟩⟩
theorem smN.set {n : Nat} {l : List Tx} (h : smN n l) (i : Nat) {t : Tx} (ht : t.ss) : smN n (l.set i t) :=
  ⟨by rw [List.length_set]; exact h.1, fun x hx => by
    rcases List.mem_or_eq_of_mem_set hx with hx | rfl
    · exact h.2 x hx
    · exact ht⟩
theorem smN.rem {n : Nat} {l : List Tx} (h : smN n l) (a : Int) : smN n (remS l a) :=
  ⟨Nat.le_trans (remS_le l a) h.1, fun x hx => h.2 x ((List.mem_filter.1 hx).1)⟩
theorem beginS_sm {l : List Tx} (a : Int) : smN 65 (beginS l a).1 := by
  unfold beginS
  split
  · exact smN_nil _
  · rename_i h1
    have hv : tblB l = true := by simpa using h1
    have hs := tblB_smN hv
    split
    · exact smN_nil _
    split
    · exact smN_nil _
    split
    · exact smN_nil _
    refine ⟨?_, fun x hx => ?_⟩
    · have := hs.1; unfold insT; simp only [List.length_append, List.length_take, List.length_cons, List.length_drop]; omega
    · unfold insT at hx
      rcases List.mem_append.1 hx with h | h
      · exact hs.2 x (List.mem_of_mem_take h)
      rcases List.mem_cons.1 h with rfl | h
      · exact ⟨Nat.zero_le _, Nat.zero_le _⟩
      · exact hs.2 x (List.mem_of_mem_drop h)
theorem actS_sm {l : List Tx} {a : Int} (h : (activeS l a).2 = 0) : smN 64 l ∧ (activeS l a).1.l.length ≤ 4096 ∧ (activeS l a).1.s.length ≤ 8 := by
  obtain ⟨hv, i, hi, _, _, h3⟩ := activeS_ok h
  rw [h3]
  exact ⟨tblB_smN hv, okB_len (tblB_at hv hi)⟩
theorem saveS_sm {l : List Tx} (a : Int) : smN 65 (saveS l a).1 := by
  unfold saveS
  split
  · exact smN_nil _
  rename_i h
  obtain ⟨h1, h2, h3⟩ := actS_sm (l := l) (a := a) (by simpa using h)
  split
  · exact smN_nil _
  · exact (h1.set _ ⟨by dsimp only; omega, by dsimp only; simp; omega⟩).mono (by omega)
theorem backS_sm {l : List Tx} (a sv : Int) : smN 65 (backS l a sv).1 := by
  unfold backS
  split
  · exact smN_nil _
  rename_i h
  obtain ⟨h1, h2, h3⟩ := actS_sm (l := l) (a := a) (by simpa using h)
  have h4 : ∀ k, ((activeS l a).1.s.take k).length ≤ 100000 := fun k => by rw [List.length_take]; omega
  split
  · exact smN_nil _
  split
  · exact (h1.set _ ⟨by dsimp only; omega, h4 _⟩).mono (by omega)
  · exact (h1.set _ ⟨by dsimp only; omega, h4 _⟩).mono (by omega)
theorem settleS_sm {t : Tx} (h : t.ss) : (settleS t).ss := by unfold settleS; split <;> exact h
theorem noteS_sm {l : List Tx} (e : E) : smN 65 (noteS l e).1 := by
  unfold noteS
  split
  · exact smN_nil _
  rename_i h1
  have hv : tblB l = true := by simpa using h1
  have hs := tblB_smN hv
  split
  · exact smN_nil _
  split
  · exact hs.mono (by omega)
  split
  · exact smN_nil _
  rename_i h4
  rcases idT_cases l e.tx with h | ⟨i, hi, h, hid⟩
  · omega
  rw [h, Int.toNat_natCast, getD_eq l i hi]
  have hlen := okB_len (tblB_at hv hi)
  unfold noteA
  split
  · exact smN_nil _
  split
  · exact (hs.rem _).mono (by omega)
  · refine (hs.set _ (settleS_sm ?_)).mono (by omega)
    unfold noteT
    have hfl : (l[i].l.filter fun x => decide (x ≠ e.ref)).length ≤ l[i].l.length := List.length_filter_le _ _
    split
    · exact ⟨by dsimp only; simp; omega, by dsimp only; omega⟩
    split
    · exact ⟨by dsimp only; omega, by dsimp only; omega⟩
    · exact ⟨by dsimp only; omega, by simp⟩
attribute [go_sem] Tx.d
structure Kn where
  pg : Int
  nx : Int
  lg : Lg
  pl : Pl
  lk : Lk
  tx : List Tx
  ix : List Rw
  la : List Dt
@[go_sem] def Kn.d (k : Kn) : List DV := [.int .i64 k.pg, .int .i64 k.nx, .int .i64 k.lg.f, .pv (.sl (fz encE k.lg.es)), .int .i64 k.lg.d, .int .i64 k.pl.size, .pv (.sl (fz encF k.pl.fs)), .int .i64 k.pl.hand, .pv (.sl (fz encG k.lk.held)), .pv (.sl (fz encG k.lk.wait)), .pv (.sl (fz encT k.tx)), .pv (.sl (fz encR k.ix)), .pv (.sl (fz encY k.la))]
def Kn0 : Kn := ⟨0, 0, Lg0, Pl0, Lk0, [], [], []⟩
def Kn.sm (k : Kn) : Prop := k.lg.es.length ≤ 4096 ∧ k.pl.fs.length ≤ 64 ∧ k.lk.sum ≤ 1024 ∧ smN 65 k.tx ∧ k.ix.length ≤ 64 ∧ k.la.length ≤ 10000
theorem Kn0_sm : Kn0.sm := ⟨by decide, by decide, by decide, smN_nil _, by decide, by decide⟩
def VK (k : Kn) : Prop := (1 ≤ k.pg ∧ k.pg ≤ 64) ∧ (1 ≤ k.nx ∧ k.nx ≤ 1073741825) ∧ lgB k.lg = true ∧ plB k.pl = true ∧ tblB k.tx = true ∧ ixB k.ix = true ∧ k.ix.length = k.pg
def boD (b : Bool) : DV := .bool b
attribute [go_sem] boD appD lgD tblD vicD reqW
theorem rvdirty_w (l : List Dt) (hl : l.length ≤ 1000000) (n : Int) : VCalls prog 166 [.pv (.sl (fz encY l)), .int .i64 n] [] (RetS boD fun _ => True) := by
  refine dd Tryz.func166 ?_
  (unfold Tryz.f166; refine rn trivial ?_)
  refine vloopW (fun s : To l.length => ⟨58, 0, [(5, .int .i64 s.i), (1, .int .i64 n), (0, .pv (.sl (fz encY l)))], []⟩) (fun s => l.length - s.i) ⟨0, Nat.zero_le _⟩ (gc []) ?_
  rintro ⟨i, hi⟩
  dsimp only
  have hg := fun h : i < l.length => fzY_at l i h
  have hgp := fun h : i - 1 < l.length => fzY_at l (i - 1) h
  have F := (And.intro @hg @hgp)
  refine rn F ?_
  repeat' (first
    | with_reducible exact ⟨⟩
    | (refine sG F ?_ ?_ <;> intro hZ)
    | (refine sB F ?_ ?_ <;> intro hZ)
    | (refine vspine (id := 5) [0, 1, 2, 3, 4, 5, 6, 7, 8, 9, 10, 11, 12, 13, 14, 15, 16, 17, 18, 19, 20, 21, 22, 23, 24, 25, 26, 27, 28, 29, 30, 31, 32, 33, 34, 35, 36, 37, 38, 39, 40] [] (by kernel_rfl) (by kernel_rfl) ?_; refine rn F ?_))
  all_goals first
    | exact ⟨rfl, rfl, false, rfl, trivial⟩
    | exact ⟨rfl, rfl, true, rfl, trivial⟩
    | exact ⟨⟨i + 1, by omega⟩, by dsimp only; omega, (gc [])⟩
    | skip
@[go_sem] def laD (a : Dt × Bool) : DV := .tup [.agg a.1.d, .bool a.2]
theorem rlacks_w (k : Kn) (hl : k.la.length ≤ 1000000) (n : Int) : VCalls prog 121 [.agg k.d, .int .i64 n] [] (RetS laD fun _ => True) := by
  refine dd Tryz.func121 ?_
  (unfold Tryz.f121; refine rn trivial ?_)
  refine vloopW (fun s : To k.la.length => ⟨28, 0, [(6, .int .i64 s.i), (4, .ptr 1 0), (2, .ptr 0 0), (1, .int .i64 n)], [⟨83, true, k.d⟩, ⟨180, true, [.int .i64 0, .int .i64 0, .int .i64 0]⟩]⟩) (fun s => k.la.length - s.i) ⟨0, Nat.zero_le _⟩ (gc [0, 1]) ?_
  rintro ⟨i, hi⟩
  dsimp only
  have hg := fun h : i < k.la.length => fzY_at k.la i h
  have F := @hg
  refine rn F ?_
  repeat' (first
    | with_reducible exact ⟨⟩
    | (refine sB F ?_ ?_ <;> intro hZ))
  all_goals first
    | exact ⟨rfl, rfl, (k.la.getD i Dt0, true), rfl, trivial⟩
    | exact ⟨rfl, rfl, (Dt0, false), rfl, trivial⟩
    | exact ⟨⟨i + 1, by omega⟩, by dsimp only; omega, (gc [0, 1])⟩
    | skip
theorem rparts_w (k : Kn) (h : k.sm) : VCalls prog 120 [.agg k.d] [] (RetS boD fun b => b = true → VK k) := by
  refine dd Tryz.func120 ?_
  obtain ⟨h1, h2, h3, h4, h5, h6⟩ := h
  have c1 := rlvalid_v k.lg (by omega)
  have c2 := rplvalid_v k.pl (by omega)
  have c3 := rlkvalid_w k.lk (by omega)
  have c4 := rtvalid_v k.tx (h4.smL (by omega))
  have c5 := rixvalid_v k.ix (by omega)
  have c6 := fun n => rvdirty_w k.la (by omega) n
  have e : VK k = ((1 ≤ k.pg ∧ k.pg ≤ 64) ∧ (1 ≤ k.nx ∧ k.nx ≤ 1073741825) ∧ lgB k.lg = true ∧ plB k.pl = true ∧ tblB k.tx = true ∧ ixB k.ix = true ∧ k.ix.length = k.pg) := rfl
  generalize lgB k.lg = b1 at *
  generalize plB k.pl = b2 at *
  generalize tblB k.tx = b4 at *
  generalize ixB k.ix = b5 at *
  (unfold Tryz.f120; refine rn trivial ?_)
  refine rn F ?_
  repeat' (first
    | with_reducible exact ⟨⟩
    | (refine sG F ?_ ?_ <;> intro hZ)
    | refine vp F (c1) ?_
    | refine vp F (c2) ?_
    | (refine vc_S (c3) rfl ?_; rintro b3 -; refine rn F ?_)
    | refine vp F (c4) ?_
    | refine vp F (c5) ?_
    | (refine vc_S (c6 _) rfl ?_; rintro b6 -; refine rn F ?_))
  all_goals first
    | exact ⟨rfl, rfl, false, rfl, fun h => by cases h⟩
    | (exact ⟨rfl, rfl, _, rfl, fun _ => by rw [e]; refine ⟨⟨by omega, by omega⟩, ⟨by omega, by omega⟩, ?_, ?_, ?_, ?_, ?_⟩ <;> first | assumption | omega | (simp_all; done)⟩)
    | skip
theorem lgB_snoc {f d : Int} {es : List E} {e : E} (h : lgB ⟨f, es, d⟩ = true) (hl : es.length < 4096) (he : e.lsn = f + es.length) (ho : e.okB = true) : lgB ⟨f, es ++ [e], d⟩ = true := by
  have hd := lgB_hd h
  simp only [Lg.hd] at hd
  unfold lgB at h ⊢
  simp only [Bool.and_eq_true, decide_eq_true_eq, List.all_eq_true, List.mem_range] at h ⊢
  refine ⟨by simp only [Lg.hd, List.length_append, List.length_cons, List.length_nil]; omega, fun i hi => ?_⟩
  simp only [List.length_append, List.length_cons, List.length_nil] at hi
  rcases Nat.lt_or_ge i es.length with hlt | hge
  · have := h.2 i hlt
    unfold lgC at this ⊢
    dsimp only at this ⊢
    rw [List.getD_eq_getElem?_getD, List.getElem?_append_left hlt, ← List.getD_eq_getElem?_getD]
    exact this
  · obtain rfl : i = es.length := by omega
    unfold lgC
    dsimp only
    rw [List.getD_eq_getElem?_getD, List.getElem?_append_right (Nat.le_refl _), Nat.sub_self]
    simp [he, ho]
theorem appS_ok {x : Lg} {e : E} (h : (appS x e).2.2 = 0) : lgB x = true ∧ x.es.length < 4096 ∧ ({ e with lsn := x.end_ + 1 } : E).okB = true ∧ appS x e = (⟨x.f, x.es ++ [{ e with lsn := x.end_ + 1 }], x.d⟩, x.end_ + 1, 0) := by
  unfold appS at h ⊢
  split at h
  · simp at h
  rename_i h1
  have hv : lgB x = true := by simpa using h1
  split at h
  · simp at h
  rename_i h2
  split at h
  · simp at h
  rename_i h3
  have hd := lgB_hd hv
  simp only [Lg.hd] at hd
  exact ⟨hv, by omega, by simpa using h3, by rw [if_neg h1, if_neg h2, if_neg h3]⟩
theorem appS_lgB {x : Lg} {e : E} (h : (appS x e).2.2 = 0) : lgB (appS x e).1 = true := by
  obtain ⟨h1, h2, h3, h4⟩ := appS_ok h
  rw [h4]
  exact lgB_snoc (f := x.f) (d := x.d) h1 h2 (by dsimp only; unfold Lg.end_; omega) h3
theorem appS_len (x : Lg) (e : E) : (appS x e).1.es.length ≤ 4096 := by
  by_cases h : (appS x e).2.2 = 0
  · exact (lgB_hd (appS_lgB h)).2.2.1
  · unfold appS at h ⊢
    split
    · decide
    split
    · decide
    split
    · decide
    · simp_all
theorem appS_get {x : Lg} {e : E} (h : (appS x e).2.2 = 0) : getE (appS x e).1 (appS x e).2.1 = ({ e with lsn := x.end_ + 1 }, 0) := by
  have hl := appS_lgB h
  obtain ⟨h1, h2, h3, h4⟩ := appS_ok h
  rw [h4] at hl ⊢
  unfold getE
  dsimp only at hl ⊢
  have hd := lgB_hd h1
  simp only [Lg.hd] at hd
  rw [if_neg (by rw [hl]; decide), if_neg (by unfold Lg.end_; simp only [List.length_append, List.length_cons, List.length_nil]; omega)]
  have : (x.end_ + 1 - x.f).toNat = x.es.length := by unfold Lg.end_; omega
  rw [this, List.getD_eq_getElem?_getD, List.getElem?_append_right (Nat.le_refl _), Nat.sub_self]; rfl
theorem noteR_len (l : List Rw) (e : E) (h : l.length ≤ 64) : (noteR l e).1.length ≤ 64 := by
  unfold noteR
  split
  · decide
  split
  · decide
  split
  · exact h
  split
  · decide
  · simpa using h
theorem noteS_smN (l : List Tx) (e : E) : smN 65 (noteS l e).1 := noteS_sm e
theorem rkvalid_w (k : Kn) (h : k.sm) : VCalls prog 97 [.agg k.d] [] (RetS boD fun b => b = true → VK k) := by
  refine dd Tryz.func97 ?_
  have c1 := rparts_w k h
  obtain ⟨h1, h2, h3, h4, h5, h6⟩ := h
  have c2 := rlacks_w k (by omega)
  unfold Lk.sum at h3
  have h40 := h4.1
  (unfold Tryz.f97; refine rn trivial ?_)
  refine rn F ?_
  repeat' (first
    | with_reducible exact ⟨⟩
    | (refine sB F ?_ ?_ <;> intro hZ)
    | (refine vc_S (c1) rfl ?_; rintro b hb; refine rn F ?_))
  all_goals first
    | exact ⟨rfl, rfl, false, rfl, fun h => by cases h⟩
    | skip
  refine vloopW (fun s : To k.tx.length => ⟨94, 0, [(3, .int .i64 s.i), (1, .ptr 0 0)], [⟨83, true, k.d⟩]⟩) (fun s => k.tx.length - s.i) ⟨0, Nat.zero_le _⟩ (gc [0]) ?_
  rintro ⟨i, hi⟩
  dsimp only
  have hg := fun h : i < k.tx.length => fzT_g k.tx i h
  have F := @hg
  refine rn F ?_
  repeat' (first
    | with_reducible exact ⟨⟩
    | (refine sB F ?_ ?_ <;> intro hZ)
    | (refine vspine (id := 6) [0, 1, 2, 3, 4, 5, 6, 7, 8] [] (by kernel_rfl) (by kernel_rfl) ?_; refine rn F ?_))
  all_goals first
    | exact ⟨rfl, rfl, false, rfl, fun h => by cases h⟩
    | exact ⟨⟨i + 1, by omega⟩, by dsimp only; omega, (gc [0])⟩
    | skip
  refine vloopW (fun s : To k.pl.fs.length => ⟨94, 0, [(4, .int .i64 s.i), (1, .ptr 0 0)], [⟨83, true, k.d⟩]⟩) (fun s => k.pl.fs.length - s.i) ⟨0, Nat.zero_le _⟩ (gc [0]) ?_
  rintro ⟨j, hj⟩
  dsimp only
  have hf := fun h : j < k.pl.fs.length => fzF_at k.pl.fs j h
  have F := @hf
  refine rn F ?_
  repeat' (first
    | with_reducible exact ⟨⟩
    | (refine sB F ?_ ?_ <;> intro hZ)
    | (refine vc_S (c2 _) rfl ?_; rintro ⟨a, b2⟩ -; refine rn F ?_))
  all_goals first
    | exact ⟨rfl, rfl, false, rfl, fun h => by cases h⟩
    | exact ⟨⟨j + 1, by omega⟩, by dsimp only; omega, (gc [0])⟩
    | skip
  refine vloopW (fun s : To k.lk.held.length => ⟨94, 0, [(8, .int .i64 s.i), (1, .ptr 0 0)], [⟨83, true, k.d⟩]⟩) (fun s => k.lk.held.length - s.i) ⟨0, Nat.zero_le _⟩ (gc [0]) ?_
  rintro ⟨m, hm⟩
  dsimp only
  have hx := fun h : m < k.lk.held.length => fzG_at k.lk.held m h
  have F := @hx
  refine rn F ?_
  repeat' (first
    | with_reducible exact ⟨⟩
    | (refine sB F ?_ ?_ <;> intro hZ)
    | (refine vspine (id := 20) [0, 1, 2, 3, 4, 5, 6, 7, 8, 9, 10] [] (by kernel_rfl) (by kernel_rfl) ?_; refine rn F ?_))
  all_goals first
    | exact ⟨rfl, rfl, false, rfl, fun h => by cases h⟩
    | exact ⟨⟨m + 1, by omega⟩, by dsimp only; omega, (gc [0])⟩
    | skip
  refine vloopW (fun s : To k.lk.wait.length => ⟨94, 0, [(9, .int .i64 s.i), (1, .ptr 0 0)], [⟨83, true, k.d⟩]⟩) (fun s => k.lk.wait.length - s.i) ⟨0, Nat.zero_le _⟩ (gc [0]) ?_
  rintro ⟨n, hn⟩
  dsimp only
  have hy := fun h : n < k.lk.wait.length => fzG_at k.lk.wait n h
  have F := @hy
  refine rn F ?_
  repeat' (first
    | with_reducible exact ⟨⟩
    | (refine sB F ?_ ?_ <;> intro hZ)
    | (refine vspine (id := 25) [0, 1, 2, 3, 4, 5, 6, 7, 8, 9, 10] [] (by kernel_rfl) (by kernel_rfl) ?_; refine rn F ?_))
  all_goals first
    | exact ⟨rfl, rfl, false, rfl, fun h => by cases h⟩
    | exact ⟨⟨n + 1, by omega⟩, by dsimp only; omega, (gc [0])⟩
    | exact ⟨rfl, rfl, true, rfl, fun _ => hb (by assumption)⟩
    | skip
@[go_sem] def inD (n : Int) : DV := .int .i64 n
theorem rhead_w (k : Kn) (h : k.sm) (n : Int) : VCalls prog 124 [.agg k.d, .int .i64 n] [] (RetS inD fun _ => True) := by
  refine dd Tryz.func124 ?_
  have c1 := rkvalid_w k h
  obtain ⟨h1, h2, h3, h4, h5, h6⟩ := h
  have c2 := rlacks_w k (by omega) n
  have c3 := rpget_v k.pl (by omega) n
  have hg := fun h : n.toNat < k.ix.length => fzR_at k.ix n.toNat h
  (unfold Tryz.f124; refine rn trivial ?_)
  refine vc_S c1 rfl ?_
  rintro b hb
  cases b
  · skip
    (refine rn F ?_; try with_reducible exact ⟨⟩)
    all_goals exact ⟨rfl, rfl, _, rfl, trivial⟩
  obtain ⟨v1, v2, v3, v4, v5, v6, v7⟩ := hb rfl
  have F := @hg
  refine rn F ?_
  repeat' (first
    | with_reducible exact ⟨⟩
    | (refine sG F ?_ ?_ <;> intro hZ)
    | (refine sB F ?_ ?_ <;> intro hZ)
    | refine vp F (c3) ?_
    | (refine vc_S (c2) rfl ?_; rintro ⟨a, b2⟩ -; refine rn F ?_))
  all_goals first
    | exact ⟨rfl, rfl, _, rfl, trivial⟩
    | skip
theorem rkforce_w (k : Kn) (h : k.sm) (n : Int) : VCalls prog 108 [.agg k.d, .int .i64 n] [] (RetS (fun d : Int => .agg (Kn.d ⟨k.pg, k.nx, ⟨k.lg.f, k.lg.es, d⟩, k.pl, k.lk, k.tx, k.ix, k.la⟩)) fun d => lgB k.lg = true → lgB ⟨k.lg.f, k.lg.es, d⟩ = true) := by
  refine dd Tryz.func108 ?_
  obtain ⟨h1, h2, h3, h4, h5, h6⟩ := h
  have c1 := rlLast_v k.lg (by omega)
  have c2 := rforce_v k.lg (by omega)
  have e : ∀ n, (forceS k.lg n).2 = 0 → (forceS k.lg n).1 = ⟨k.lg.f, k.lg.es, (forceS k.lg n).1.d⟩ ∧ lgB (forceS k.lg n).1 = true := fun n h => by
    unfold forceS at h ⊢
    split at h
    · simp at h
    rename_i q1
    split at h
    · simp at h
    rename_i q2
    rw [if_neg q1, if_neg q2]
    refine ⟨rfl, ?_⟩
    have hv : lgB k.lg = true := by simpa using q1
    have hd := lgB_hd hv
    unfold lgB at hv ⊢
    simp only [Bool.and_eq_true, decide_eq_true_eq] at hv ⊢
    refine ⟨?_, hv.2⟩
    simp only [Lg.hd, Lg.end_] at hd q2 ⊢
    split <;> omega
  (unfold Tryz.f108; refine rn trivial ?_)
  refine rn F ?_
  repeat' (first
    | with_reducible exact ⟨⟩
    | (refine sB F ?_ ?_ <;> intro hZ)
    | refine vp F (c1) ?_
    | refine vp F (c2 _) ?_
    | (refine vspine (id := 1) [0, 1, 2, 3, 4] [⟨[11], [], 5, [0, 1, 2, 3], [6]⟩, ⟨[11], [], 7, [0, 2, 3, 4], [8, 9, 10]⟩, ⟨[11], [11], 12, [10], []⟩, ⟨[], [], 13, [], []⟩] (by kernel_rfl) (by kernel_rfl) ?_; refine rn F ?_))
  · obtain ⟨e1, e2⟩ := e _ (by assumption)
    generalize forceS k.lg _ = r at *
    obtain ⟨⟨f', es', d'⟩, er⟩ := r
    simp only [Lg.mk.injEq] at e1
    obtain ⟨rfl, rfl, _⟩ := e1
    exact ⟨rfl, rfl, d', rfl, fun _ => e2⟩
  · exact ⟨rfl, rfl, k.lg.d, rfl, fun h => h⟩
@[go_sem] def kie (a : Kn × Int × Int) : DV := .tup [.agg a.1.d, .int .i64 a.2.1, .int .i64 a.2.2]
def beginQ (k : Kn) (a : Kn × Int × Int) : Prop := a.1.sm ∧ (a.2.2 = 0 → VK k ∧ (beginS k.tx k.nx).2 = 0 ∧ a.1 = ⟨k.pg, k.nx + 1, k.lg, k.pl, k.lk, (beginS k.tx k.nx).1, k.ix, k.la⟩)
theorem rkbegin_w (k : Kn) (h : k.sm) : VCalls prog 89 [.agg k.d] [] (RetS kie (beginQ k)) := by
  refine dk Tryz.func89 ?_
  have c1 := rkvalid_w k h
  have h' := h
  obtain ⟨h1, h2, h3, h4, h5, h6⟩ := h
  have c2 := rbegin_v k.tx (h4.smL (by omega)) k.nx
  have hsm := beginS_sm (l := k.tx) k.nx
  have e0 : ∀ er n, er ≠ 0 → beginQ k (Kn0, n, er) := fun er n h => ⟨Kn0_sm, fun h2 => absurd h2 h⟩
  (unfold Tryz.f89; refine rn trivial ?_)
  refine vc_S c1 rfl ?_
  rintro b hb
  cases b
  · skip
    (refine rn F ?_; try with_reducible exact ⟨⟩)
    all_goals exact ⟨rfl, rfl, (Kn0, 0, 15), rfl, e0 _ _ (by decide)⟩
  have hv := hb rfl
  obtain ⟨v1, v2, v3, v4, v5, v6, v7⟩ := hb rfl
  refine rn F ?_
  repeat' (first
    | with_reducible exact ⟨⟩
    | (refine sB F ?_ ?_ <;> intro hZ)
    | refine vp F (c2) ?_
    | (refine vspine (id := 10) [0, 1, 2, 3] [⟨[], [], 4, [1, 2, 3], []⟩, ⟨[], [], 5, [], []⟩, ⟨[], [], 6, [], []⟩] (by kernel_rfl) (by kernel_rfl) ?_; refine rn F ?_))
  all_goals first
    | exact ⟨rfl, rfl, (Kn0, 0, 21), rfl, e0 _ _ (by decide)⟩
    | exact ⟨rfl, rfl, (Kn0, 0, (beginS k.tx k.nx).2), rfl, e0 _ _ (by assumption)⟩
    | exact ⟨rfl, rfl, (⟨k.pg, k.nx + 1, k.lg, k.pl, k.lk, (beginS k.tx k.nx).1, k.ix, k.la⟩, k.nx + 1 - 1, 0), rfl, ⟨h1, h2, h3, hsm, h5, h6⟩, fun _ => ⟨hv, by omega, rfl⟩⟩
    | skip
def Kn.add (k : Kn) (e : E) : Kn := ⟨k.pg, k.nx, ⟨k.lg.f, k.lg.es ++ [e], k.lg.d⟩, k.pl, k.lk, (noteS k.tx e).1, (noteR k.ix e).1, k.la⟩
def SameE (e e' : E) : Prop := e'.kind = e.kind ∧ e'.tx = e.tx ∧ e'.ref = e.ref ∧ e'.c = e.c ∧ e'.blob = e.blob
def AddOk (k : Kn) (e e' : E) : Prop := VK k ∧ SameE e e' ∧ e'.okB = true ∧ e'.lsn = k.lg.end_ + 1 ∧ k.lg.es.length < 4096 ∧ (noteS k.tx e').2 = 0 ∧ (noteR k.ix e').2 = 0 ∧ (e.tx = 0 → e'.ptx = 0) ∧ (0 < e.tx → ∃ i, i < k.tx.length ∧ idT k.tx e.tx = i ∧ e'.ptx = (k.tx.getD i Tx0).n)
def addQ (k : Kn) (e : E) (a : Kn × Int × Int) : Prop := a.1.sm ∧ (a.2.2 = 0 → ∃ e', AddOk k e e' ∧ a.1 = k.add e' ∧ a.2.1 = e'.lsn ∧ lgB a.1.lg = true)
theorem addQ_no (k : Kn) (e : E) (n er : Int) (h : er ≠ 0) : addQ k e (Kn0, n, er) := ⟨Kn0_sm, fun h2 => absurd h2 h⟩
theorem addQ_ok {k : Kn} {e e1 : E} (hs : k.sm) (hv : VK k) (h : (appS k.lg e1).2.2 = 0) (hn : (noteS k.tx (getE (appS k.lg e1).1 (appS k.lg e1).2.1).1).2 = 0) (hr : (noteR k.ix (getE (appS k.lg e1).1 (appS k.lg e1).2.1).1).2 = 0) (hse : SameE e e1) (h0 : e.tx = 0 → e1.ptx = 0)
    (hi : 0 < e.tx → ∃ i, i < k.tx.length ∧ idT k.tx e.tx = i ∧ e1.ptx = (k.tx.getD i Tx0).n) :
    addQ k e (⟨k.pg, k.nx, (appS k.lg e1).1, k.pl, k.lk, (noteS k.tx (getE (appS k.lg e1).1 (appS k.lg e1).2.1).1).1, (noteR k.ix (getE (appS k.lg e1).1 (appS k.lg e1).2.1).1).1, k.la⟩, (appS k.lg e1).2.1, 0) := by
  have hg := appS_get h
  have hl := appS_lgB h
  obtain ⟨q1, q2, q3, q4⟩ := appS_ok h
  have hlen := appS_len k.lg e1
  obtain ⟨s1, s2, s3, s4, s5, s6⟩ := hs
  rw [hg] at hn hr ⊢
  rw [q4] at hl hlen ⊢
  exact ⟨⟨hlen, s2, s3, noteS_smN _ _, noteR_len _ _ s5, s6⟩, fun _ => ⟨{ e1 with lsn := k.lg.end_ + 1 }, ⟨hv, hse, q3, rfl, q2, hn, hr, h0, hi⟩, rfl, rfl, hl⟩⟩
theorem rkadd_w (k : Kn) (h : k.sm) (e : E) : VCalls prog 116 [.agg k.d, .agg e.d] [] (RetS kie (addQ k e)) := by
  refine dk Tryz.func116 ?_
  have c1 := rkvalid_w k h
  have ch := fun n => rhead_w k h n
  have h' := h
  obtain ⟨h1, h2, h3, h4, h5, h6⟩ := h
  have c2 := rfind_v k.tx (Nat.le_trans h4.1 (by decide)) e.tx
  have hq := addQ_no k e
  obtain ⟨lsn, kind, tx, ptx, ppg, ref, c, blob⟩ := e
  dsimp only at c2
  have c3 := fun p => rchanges_v ⟨lsn, kind, tx, p, 0, ref, c, blob⟩
  have c4 := fun e => rappend_v k.lg (by omega) e
  have c5 := fun e => rget_e (appS k.lg e).1 (by have := appS_len k.lg e; omega) (appS k.lg e).2.1
  have c6 := fun e => rnote_v k.tx (h4.smL (by omega)) e
  have c7 := fun e => rixnote_v k.ix (by omega) e
  (unfold Tryz.f116; refine rn trivial ?_)
  refine vc_S c1 rfl ?_
  rintro b hb
  cases b
  · skip
    (refine rn F ?_; try with_reducible exact ⟨⟩)
    all_goals exact ⟨rfl, rfl, (Kn0, 0, 15), rfl, hq _ _ (by decide)⟩
  have hv := hb rfl
  by_cases ht : 0 < tx
  · rcases idT_cases k.tx tx with hi | ⟨i, hi, hid, _⟩
    · rw [hi] at c2
      have F := @ht
      refine rn F ?_
      repeat' (first
        | with_reducible exact ⟨⟩
        | refine vp F (c2) ?_)
      all_goals exact ⟨rfl, rfl, (Kn0, 0, 16), rfl, hq _ _ (by decide)⟩
    · rw [hid] at c2
      have hg := fzT_g k.tx i hi
      have F := (And.intro @ht @hg)
      refine rn F ?_
      repeat' (first
        | with_reducible exact ⟨⟩
        | (refine sB F ?_ ?_ <;> intro hZ)
        | refine vp F (c2) ?_
        | refine vp F (c3 _) ?_
        | refine vp F (c4 ⟨_, _, _, _, _, _, ⟨_, _, ⟨_, _⟩, ⟨_, _⟩⟩, _⟩) ?_
        | refine vp F (c5 _) ?_
        | refine vp F (c6 _) ?_
        | refine vp F (c7 _) ?_
        | (refine vc_S (ch _) rfl ?_; rintro hd -; refine rn F ?_)
        | (refine vspine (id := 21) [0, 1, 2, 3] [⟨[], [], 4, [1, 2], [5]⟩, ⟨[], [], 6, [2], [7]⟩, ⟨[], [], 8, [], []⟩] (by kernel_rfl) (by kernel_rfl) ?_; refine rn F ?_))
      all_goals first
        | exact ⟨rfl, rfl, (Kn0, 0, _), rfl, hq _ _ (by assumption)⟩
        | (have q := addQ_ok (e := ⟨lsn, kind, tx, ptx, ppg, ref, c, blob⟩) (e1 := ⟨lsn, kind, tx, (k.tx.getD i Tx0).n, 0, ref, c, blob⟩) h' hv (by omega) (by omega) (by omega) ⟨rfl, rfl, rfl, rfl, rfl⟩ (fun h => by dsimp only at h; omega) (fun _ => ⟨i, hi, hid, rfl⟩)
           exact ⟨rfl, rfl, _, rfl, q⟩)
        | (have q := addQ_ok (e := ⟨lsn, kind, tx, ptx, ppg, ref, c, blob⟩) (e1 := ⟨lsn, kind, tx, (k.tx.getD i Tx0).n, hd, ref, c, blob⟩) h' hv (by omega) (by omega) (by omega) ⟨rfl, rfl, rfl, rfl, rfl⟩ (fun h => by dsimp only at h; omega) (fun _ => ⟨i, hi, hid, rfl⟩)
           exact ⟨rfl, rfl, _, rfl, q⟩)
        | skip
  · skip
    have F := @ht
    refine rn F ?_
    repeat' (first
      | with_reducible exact ⟨⟩
      | (refine sB F ?_ ?_ <;> intro hZ)
      | refine vp F (c3 _) ?_
      | refine vp F (c4 ⟨_, _, _, _, _, _, ⟨_, _, ⟨_, _⟩, ⟨_, _⟩⟩, _⟩) ?_
      | refine vp F (c5 _) ?_
      | refine vp F (c6 _) ?_
      | refine vp F (c7 _) ?_
      | (refine vc_S (ch _) rfl ?_; rintro hd -; refine rn F ?_)
      | (refine vspine (id := 21) [0, 1, 2, 3] [⟨[], [], 4, [1, 2], [5]⟩, ⟨[], [], 6, [2], [7]⟩, ⟨[], [], 8, [], []⟩] (by kernel_rfl) (by kernel_rfl) ?_; refine rn F ?_))
    all_goals first
      | exact ⟨rfl, rfl, (Kn0, 0, _), rfl, hq _ _ (by assumption)⟩
      | (have q := addQ_ok (e := ⟨lsn, kind, tx, ptx, ppg, ref, c, blob⟩) (e1 := ⟨lsn, kind, tx, 0, 0, ref, c, blob⟩) h' hv (by omega) (by omega) (by omega) ⟨rfl, rfl, rfl, rfl, rfl⟩ (fun _ => rfl) (fun h => absurd h ht)
         exact ⟨rfl, rfl, _, rfl, q⟩)
      | (have q := addQ_ok (e := ⟨lsn, kind, tx, ptx, ppg, ref, c, blob⟩) (e1 := ⟨lsn, kind, tx, 0, hd, ref, c, blob⟩) h' hv (by omega) (by omega) (by omega) ⟨rfl, rfl, rfl, rfl, rfl⟩ (fun _ => rfl) (fun h => absurd h ht)
         exact ⟨rfl, rfl, _, rfl, q⟩)
      | skip
structure Rs where
  st : Int
  tx : Int
  pg : Int
  cell : Ce
  er : Int
@[go_sem] def Rs.d (r : Rs) : List DV := [.int .i64 r.st, .int .i64 r.tx, .int .i64 r.pg, .bool r.cell.set, .pv (.str r.cell.data), .int .i64 r.er]
def failR (e : Int) : Rs := ⟨5, 0, 0, Ce0, e⟩
@[go_sem] def krD (a : Kn × Rs) : DV := .tup [.agg a.1.d, .agg a.2.d]
structure Ev (x y : Lg) : Prop where
  f : y.f = x.f
  pre : x.es <+: y.es
  ok : lgB x = true → lgB y = true
theorem Ev.refl (x : Lg) : Ev x x := ⟨rfl, List.prefix_rfl, fun h => h⟩
theorem Ev.trans {x y z : Lg} (a : Ev x y) (b : Ev y z) : Ev x z := ⟨b.f.trans a.f, a.pre.trans b.pre, fun h => b.ok (a.ok h)⟩
theorem Ev.len {x y : Lg} (a : Ev x y) : x.es.length ≤ y.es.length := a.pre.length_le
theorem AddOk.le {k : Kn} {e e' : E} (_ : AddOk k e e') (hl : lgB (k.add e').lg = true) : Ev k.lg (k.add e').lg := ⟨rfl, List.prefix_append _ _, fun _ => hl⟩
theorem Ev.force {x : Lg} {d : Int} (h : lgB x = true → lgB ⟨x.f, x.es, d⟩ = true) : Ev x ⟨x.f, x.es, d⟩ := ⟨rfl, List.prefix_rfl, h⟩
theorem addQ_ev {k k1 : Kn} {e : E} {n1 e1 : Int} (hq : addQ k e (k1, n1, e1)) (h : e1 = 0) : Ev k.lg k1.lg ∧ lgB k1.lg = true ∧ k1.lg.es.length = k.lg.es.length + 1 ∧ k1.pg = k.pg ∧ k1.pl = k.pl ∧ k1.lk = k.lk ∧ k1.la = k.la := by
  obtain ⟨e', ha, hk, _, hl⟩ := hq.2 h
  dsimp only at hk hl
  subst hk
  exact ⟨ha.le hl, hl, by simp [Kn.add], rfl, rfl, rfl, rfl⟩
theorem failed_v (e : Int) : VCalls prog 87 [.int .i64 e] [] (Ret (.agg (failR e).d)) := by
  refine dd Tryz.func87 ?_
  (unfold Tryz.f87; refine rn trivial ?_)
  rfl
theorem rchanged_w (k : Kn) (h : k.sm) (tx pg sl : Int) (hi : 0 ≤ idT k.tx tx) : VCalls prog 226 [.agg k.d, .int .i64 tx, .agg [.int .i64 pg, .int .i64 sl]] [] (RetS boD fun _ => True) := by
  refine dd Tryz.func226 ?_
  obtain ⟨h1, h2, h3, h4, h5, h6⟩ := h
  have c2 := rfind_v k.tx (Nat.le_trans h4.1 (by decide)) tx
  have c5 := fun n => rget_e k.lg (by omega) n
  rcases idT_cases k.tx tx with hn | ⟨i, hil, hid, _⟩
  · omega
  rw [hid] at c2
  have hg := fzT_g k.tx i hil
  have ht : (k.tx.getD i Tx0).l.length ≤ 100000 := by rw [getD_eq _ _ hil]; exact (h4.2 _ (List.getElem_mem hil)).1
  (unfold Tryz.f226; refine rn trivial ?_)
  have F := @hg
  refine rn F ?_
  repeat' (first
    | with_reducible exact ⟨⟩
    | refine vp F (c2) ?_
    | (refine vspine (id := 1) [0, 1, 2, 3, 4] [⟨[8], [], 5, [0, 1, 2], [6, 7]⟩, ⟨[8], [8], 9, [], []⟩] (by kernel_rfl) (by kernel_rfl) ?_; refine rn F ?_))
  generalize k.tx.getD i Tx0 = t at *
  refine vloopW (fun s : To t.l.length => ⟨55, 0, [(8, .int .i64 s.i), (7, .ptr 2 0), (5, .ptr 1 0), (3, .ptr 0 0)], [⟨83, true, k.d⟩, ⟨188, true, [.int .i64 pg, .int .i64 sl]⟩, ⟨209, true, t.d⟩]⟩) (fun s => t.l.length - s.i) ⟨0, Nat.zero_le _⟩ (gc [0, 1, 2]) ?_
  rintro ⟨j, hj⟩
  dsimp only
  have hx := fun h : j < t.l.length => fzI_get t.l j h
  have F := @hx
  refine rn F ?_
  repeat' (first
    | with_reducible exact ⟨⟩
    | (refine sG F ?_ ?_ <;> intro hZ)
    | (refine sB F ?_ ?_ <;> intro hZ)
    | refine vp F (c5 _) ?_
    | (refine vspine (id := 5) [0, 1, 2, 3, 4, 5, 6] [⟨[11], [], 7, [0, 2, 3, 4, 5], [8, 9, 10]⟩, ⟨[11], [11], 12, [10], []⟩, ⟨[], [], 13, [], []⟩] (by kernel_rfl) (by kernel_rfl) ?_; refine rn F ?_))
  all_goals first
    | exact ⟨rfl, rfl, true, rfl, trivial⟩
    | exact ⟨rfl, rfl, false, rfl, trivial⟩
    | exact ⟨⟨j + 1, by omega⟩, by dsimp only; omega, (gc [0, 1, 2])⟩
    | skip
def commitQ (k : Kn) (a : Kn × Rs) : Prop := a.1.sm ∧ Ev k.lg a.1.lg ∧ a.2.st ≠ 3
theorem rcommit_w (k : Kn) (h : k.sm) (tx : Int) (hi : 0 ≤ idT k.tx tx) : VCalls prog 181 [.agg k.d, .int .i64 tx] [] (RetS krD (commitQ k)) := by
  refine dk Tryz.func181 ?_
  have h' := h
  obtain ⟨h1, h2, h3, h4, h5, h6⟩ := h
  have c2 := rfind_v k.tx (Nat.le_trans h4.1 (by decide)) tx
  have c3 := rremove_v k.tx (Nat.le_trans h4.1 (by decide)) tx
  have c4 := rkadd_w k h' ⟨0, 3, tx, 0, 0, 0, Ch0, []⟩
  rcases idT_cases k.tx tx with hn | ⟨i, hil, hid, _⟩
  · omega
  rw [hid] at c2
  have hg := fzT_g k.tx i hil
  (unfold Tryz.f181; refine rn trivial ?_)
  have F := @hg
  refine rn F ?_
  repeat' (first
    | with_reducible exact ⟨⟩
    | (refine sB F ?_ ?_ <;> intro hZ)
    | refine vp F (c2) ?_
    | refine vp F (c3) ?_
    | (refine vc_S (c4) rfl ?_; rintro ⟨k1, n1, e1⟩ hq; refine rn F ?_)
    | refine vp F (failed_v _) ?_
    | (refine vc_S (rkforce_w k1 hq.1 _) rfl ?_; rintro d hd; refine rn F ?_)
    | (refine vc_S (rrelease_w k.lk (by omega) tx) rfl ?_; rintro u hu; refine rn F ?_)
    | (refine vc_S (rrelease_w k1.lk (Nat.le_trans hq.1.2.2.1 (by decide)) tx) rfl ?_; rintro u hu; refine rn F ?_)
    | (refine vspine (id := 2) [0, 1, 2, 3, 4] [⟨[], [], 5, [0, 1, 2], [6, 7, 8, 9]⟩] (by kernel_rfl) (by kernel_rfl) ?_; refine rn F ?_)
    | (refine vspine (id := 6) [0, 1] [⟨[], [], 2, [0], []⟩, ⟨[], [], 3, [1], []⟩, ⟨[], [], 4, [], []⟩] (by kernel_rfl) (by kernel_rfl) ?_; refine rn F ?_))
  · exact ⟨rfl, rfl, (⟨k.pg, k.nx, k.lg, k.pl, u, remS k.tx tx, k.ix, k.la⟩, ⟨1, 0, 0, Ce0, 0⟩), rfl, ⟨h1, h2, Nat.le_trans hu h3, h4.rem _, h5, h6⟩, Ev.refl _, by simp [failR]⟩
  · exact ⟨rfl, rfl, (k, failR e1), rfl, h', Ev.refl _, by simp [failR]⟩
  · obtain ⟨q1, q2, q3, q4, q5, q6, q7⟩ := addQ_ev hq (by omega)
    obtain ⟨r1, r2, r3, r4, r5, r6⟩ := hq.1
    exact ⟨rfl, rfl, (⟨k1.pg, k1.nx, ⟨k1.lg.f, k1.lg.es, d⟩, k1.pl, u, k1.tx, k1.ix, k1.la⟩, ⟨1, 0, 0, Ce0, 0⟩), rfl, ⟨r1, r2, Nat.le_trans hu r3, r4, r5, r6⟩, q1.trans (Ev.force hd), by simp [failR]⟩
theorem idT_mem {l : List Tx} {a : Int} : 0 ≤ idT l a ↔ a ∈ l.map (·.id) := by
  unfold idT idxP
  constructor
  · intro h
    split at h
    · rename_i hx
      obtain ⟨t, ht, he⟩ := List.any_eq_true.1 hx
      exact List.mem_map.2 ⟨t, ht, by simpa using he⟩
    · omega
  · intro h
    obtain ⟨t, ht, he⟩ := List.mem_map.1 h
    rw [if_pos (List.any_eq_true.2 ⟨t, ht, by simpa using he⟩)]
    omega
theorem settleS_id (t : Tx) : (settleS t).id = t.id := by unfold settleS; split <;> rfl
theorem noteT_id (t : Tx) (e : E) : (noteT t e).id = t.id := by unfold noteT; split; rfl; split <;> rfl
theorem noteS_ids {l : List Tx} {e : E} (h : (noteS l e).2 = 0) (hk : e.kind ≠ 3 ∧ e.kind ≠ 5) : (noteS l e).1.map (·.id) = l.map (·.id) := by
  unfold noteS at h ⊢
  split at h
  · simp at h
  rename_i q1
  split at h
  · simp at h
  rename_i q2
  split at h
  · rename_i q3; rw [if_neg q1, if_neg q2, if_pos q3]
  rename_i q3
  split at h
  · simp at h
  rename_i q4
  rw [if_neg q1, if_neg q2, if_neg q3, if_neg q4]
  rcases idT_cases l e.tx with hn | ⟨i, hi, hid, _⟩
  · omega
  rw [hid, Int.toNat_natCast] at h ⊢
  unfold noteA at h ⊢
  split at h
  · simp at h
  rename_i q5
  split at h
  · rename_i q6; omega
  rename_i q6
  rw [if_neg q5, if_neg q6]
  dsimp only
  rw [List.map_set, settleS_id, noteT_id, getD_eq l i hi]
  have : l[i].id = (l.map (·.id))[i]'(by simpa using hi) := by rw [List.getElem_map]
  rw [this, List.set_getElem_self]
theorem noteS_stay {l : List Tx} {e : E} (h : (noteS l e).2 = 0) (hk : e.kind ≠ 3 ∧ e.kind ≠ 5) {a : Int} (ha : 0 ≤ idT l a) : 0 ≤ idT (noteS l e).1 a := by
  rw [idT_mem] at ha ⊢; rw [noteS_ids h hk]; exact ha
theorem noteS_none {l : List Tx} {e : E} (h : (noteS l e).2 = 0) (ht : e.tx = 0) : (noteS l e).1 = l := by
  unfold noteS at h ⊢
  split at h
  · simp at h
  rename_i q1
  split at h
  · simp at h
  rename_i q2
  rw [if_neg q1, if_neg q2, if_pos ht]
theorem addQ_stay {k k1 : Kn} {e : E} {n1 e1 : Int} (hq : addQ k e (k1, n1, e1)) (h : e1 = 0) (hk : e.kind ≠ 3 ∧ e.kind ≠ 5) {a : Int} (ha : 0 ≤ idT k.tx a) : 0 ≤ idT k1.tx a := by
  obtain ⟨e', ⟨v, s, _, _, _, hn, _⟩, hk1, _, _⟩ := hq.2 h
  dsimp only at hk1
  subst hk1
  exact noteS_stay hn (by rw [s.1]; exact hk) ha
theorem addQ_none {k k1 : Kn} {e : E} {n1 e1 : Int} (hq : addQ k e (k1, n1, e1)) (h : e1 = 0) (ht : e.tx = 0) : k1.tx = k.tx := by
  obtain ⟨e', ⟨v, s, _, _, _, hn, _⟩, hk1, _, _⟩ := hq.2 h
  dsimp only at hk1
  subst hk1
  exact noteS_none hn (by rw [s.2.1]; exact ht)
def leaveQ (k : Kn) (st : Int) (a : Kn × Rs) : Prop := a.1.sm ∧ Ev k.lg a.1.lg ∧ (a.2.st = st ∨ a.2.st = 5)
theorem rleave_w (k : Kn) (h : k.sm) (tx st : Int) (hi : 0 ≤ idT k.tx tx) : VCalls prog 182 [.agg k.d, .int .i64 tx, .int .i64 st] [] (RetS krD (leaveQ k st)) := by
  refine dk Tryz.func182 ?_
  have h' := h
  obtain ⟨h1, h2, h3, h4, h5, h6⟩ := h
  have c1 := rcancel_w k.lk (by omega) tx
  have c2 := rfind_v k.tx (Nat.le_trans h4.1 (by decide)) tx
  have c3 := rremove_v k.tx (Nat.le_trans h4.1 (by decide)) tx
  have c4 := fun (u : Lk) (hu : u.sum ≤ k.lk.sum) => rkadd_w ⟨k.pg, k.nx, k.lg, k.pl, u, k.tx, k.ix, k.la⟩ ⟨h1, h2, Nat.le_trans hu h3, h4, h5, h6⟩ ⟨0, 4, tx, 0, 0, 0, Ch0, []⟩
  rcases idT_cases k.tx tx with hn | ⟨i, hil, hid, _⟩
  · omega
  rw [hid] at c2
  have hg := fzT_g k.tx i hil
  (unfold Tryz.f182; refine rn trivial ?_)
  have F := @hg
  refine rn F ?_
  repeat' (first
    | with_reducible exact ⟨⟩
    | (refine sB F ?_ ?_ <;> intro hZ)
    | (refine vc_S (c1) rfl ?_; rintro u hu; refine rn F ?_)
    | refine vp F (c2) ?_
    | refine vp F (c3) ?_
    | (refine vc_S (c4 u hu) rfl ?_; rintro ⟨k1, n1, e1⟩ hq; refine rn F ?_)
    | refine vp F (failed_v _) ?_
    | (refine vc_S (rrelease_w u (Nat.le_trans hu (Nat.le_trans h3 (by decide))) tx) rfl ?_; rintro u2 hu2; refine rn F ?_)
    | (refine vspine (id := 3) [0, 1, 2, 3, 4] [⟨[], [], 5, [0, 1, 2], [6, 7, 8, 9]⟩] (by kernel_rfl) (by kernel_rfl) ?_; refine rn F ?_)
    | (refine vspine (id := 9) [0, 1] [⟨[], [], 2, [0], []⟩, ⟨[], [], 3, [1], []⟩, ⟨[], [], 4, [], []⟩] (by kernel_rfl) (by kernel_rfl) ?_; refine rn F ?_))
  · exact ⟨rfl, rfl, (⟨k.pg, k.nx, k.lg, k.pl, u2, remS k.tx tx, k.ix, k.la⟩, ⟨st, 0, 0, Ce0, 0⟩), rfl, ⟨h1, h2, Nat.le_trans hu2 (Nat.le_trans hu h3), h4.rem _, h5, h6⟩, Ev.refl _, .inl rfl⟩
  · exact ⟨rfl, rfl, (k, failR e1), rfl, h', Ev.refl _, .inr rfl⟩
  have he1 : e1 = 0 := by omega
  obtain ⟨q1, q2, q3, q4, q5, q6, q7⟩ := addQ_ev hq he1
  have hst := addQ_stay hq he1 ⟨by simp, by simp⟩ hi
  obtain ⟨r1, r2, r3, r4, r5, r6⟩ := hq.1
  dsimp only at q1 hst r1 r2 r3 r4 r5 r6
  have hkl : k1.lk.held.length ≤ 1024 := by unfold Lk.sum at r3; omega
  refine vloopW (fun s : {s : Nat × Lk // s.1 ≤ k1.lk.held.length ∧ s.2.sum ≤ 1024} => ⟨95, 0, [(12, .int .i64 s.1.1), (11, .pv (.sl (fz encG k1.lk.held))), (8, .ptr 2 0), (7, .ptr 1 0), (6, .ptr 0 0), (2, .int .i64 st), (1, .int .i64 tx)], [⟨83, true, [.int .i64 0, .int .i64 0, .int .i64 0, .pv (.slc []), .int .i64 0, .int .i64 0, .pv (.slc []), .int .i64 0, .pv (.slc []), .pv (.slc []), .pv (.slc []), .pv (.slc []), .pv (.slc [])]⟩, ⟨139, true, [.int .i64 0, .int .i64 0, .int .i64 0, .bool false, .pv (.str []), .int .i64 0]⟩, ⟨83, true, Kn.d ⟨k1.pg, k1.nx, k1.lg, k1.pl, s.1.2, k1.tx, k1.ix, k1.la⟩⟩]⟩) (fun s => k1.lk.held.length - s.1.1) ⟨(0, k1.lk), Nat.zero_le _, r3⟩ (gc [1, 2, 3]) ?_
  rintro ⟨⟨j, u3⟩, hj, hu3⟩
  dsimp only at hj hu3 ⊢
  have hx := fun h : j < k1.lk.held.length => fzG_at k1.lk.held j h
  have d1 := rchanged_w ⟨k1.pg, k1.nx, k1.lg, k1.pl, u3, k1.tx, k1.ix, k1.la⟩ ⟨r1, r2, hu3, r4, r5, r6⟩ tx
  have d2 := rdrop_w u3 (by omega) tx
  have F := @hx
  refine rn F ?_
  repeat' (first
    | with_reducible exact ⟨⟩
    | (refine sG F ?_ ?_ <;> intro hZ)
    | (refine sB F ?_ ?_ <;> intro hZ)
    | (refine vc_S (d1 _ _ hst) rfl ?_; rintro b -; refine rn F ?_)
    | (refine vc_S (d2 _ _) rfl ?_; rintro u4 hu4; refine rn F ?_)
    | (refine vspine (id := 14) [0, 1, 2, 3, 4, 5, 6, 7, 8, 9, 10, 11, 12, 13, 14] [⟨[], [], 15, [0, 1, 2, 3, 4, 5, 6, 10, 11, 12, 13], [16, 17]⟩] (by kernel_rfl) (by kernel_rfl) ?_; refine rn F ?_)
    | (refine vspine (id := 15) [0, 1, 2, 3, 4, 5, 6, 7] [⟨[], [], 8, [0, 3, 4, 5, 6], [9]⟩, ⟨[], [], 10, [], []⟩] (by kernel_rfl) (by kernel_rfl) ?_; refine rn F ?_))
  all_goals first
    | exact ⟨⟨(j + 1, u3), by dsimp only; omega, hu3⟩, by dsimp only; omega, (gc [0, 1, 2])⟩
    | exact ⟨⟨(j + 1, u4), by dsimp only; omega, Nat.le_trans hu4 hu3⟩, by dsimp only; omega, (gc [0, 1, 2])⟩
    | exact ⟨rfl, rfl, (⟨k1.pg, k1.nx, k1.lg, k1.pl, u3, k1.tx, k1.ix, k1.la⟩, ⟨st, 0, 0, Ce0, 0⟩), rfl, ⟨r1, r2, hu3, r4, r5, r6⟩, q1, .inl rfl⟩
    | skip
section
attribute [local go_sem] iteLe
theorem cel_setU (x : Pg) (i : Nat) (h : i < 16) (c : Ce) : x.d.take (2 + i * 2) ++ [.pv (.lit (.bool c.set)), .pv (.str c.data)] ++ x.d.drop (2 + i * 2 + 2) = (x.setc i c).d := cel_set x i h c
theorem okB_slot {e : E} (h : e.okB = true) (hk : e.kind = 1 ∨ e.kind = 2) : 0 ≤ e.c.sl ∧ e.c.sl < 16 := by
  unfold E.okB at h
  simp only [Bool.and_eq_true] at h
  have h2 := h.2
  unfold E.kindB Ch.okB at h2
  rcases hk with hk | hk <;> rw [hk] at h2 <;> simp at h2 <;> omega
theorem addQ_slot {k k1 : Kn} {e : E} {n1 e1 : Int} (hq : addQ k e (k1, n1, e1)) (h : e1 = 0) (hk : e.kind = 1 ∨ e.kind = 2) : 0 ≤ e.c.sl ∧ e.c.sl < 16 := by
  obtain ⟨e', ⟨v, s, ho, _⟩, _⟩ := hq.2 h
  have := okB_slot ho (by rw [s.1]; exact hk)
  rw [s.2.2.2.1] at this
  exact this
theorem updS_len (p : Pl) (x : Pg) (h : p.fs.length ≤ 64) : (updS p x).1.fs.length ≤ 64 := by
  unfold updS
  repeat' split
  all_goals first | exact Nat.zero_le _ | simpa using h
@[go_sem] def kiD (a : Kn × Int) : DV := .tup [.agg a.1.d, .int .i64 a.2]
def setQ (k : Kn) (a : Kn × Int) : Prop := a.1.sm ∧ (a.2 = 0 → Ev k.lg a.1.lg ∧ lgB a.1.lg = true ∧ a.1.lg.es.length = k.lg.es.length + 1 ∧ VK k) ∧ (a.2 ≠ 0 → a.1 = k)
theorem rset_w (k : Kn) (h : k.sm) (e : E) (hk : e.kind = 1 ∨ e.kind = 2) : VCalls prog 176 [.agg k.d, .agg e.d] [] (RetS kiD (setQ k)) := by
  refine dk Tryz.func176 ?_
  have h' := h
  obtain ⟨h1, h2, h3, h4, h5, h6⟩ := h
  have c1 := rkadd_w k h' e
  have c2 := rpget_v k.pl (by omega) e.c.pg
  have c3 := fun x => rpupd_v k.pl (by omega) x
  have hul := fun x => updS_len k.pl x h2
  (unfold Tryz.f176; refine rn trivial ?_)
  refine vc_S c1 rfl ?_
  rintro ⟨k1, n1, e1⟩ hq
  by_cases he1 : e1 = 0
  · subst he1
    obtain ⟨s1, s2⟩ := addQ_slot hq rfl hk
    obtain ⟨i, hi⟩ : ∃ i : Nat, e.c.sl = i := ⟨e.c.sl.toNat, by omega⟩
    have hce := fun x => cel_setU x i (by omega) e.c.a
    have hi16 : i < 16 := by omega
    obtain ⟨q1, q2, q3, q4, q5, q6, q7⟩ := addQ_ev hq rfl
    obtain ⟨r1, r2, r3, r4, r5, r6⟩ := hq.1
    have hv : VK k := by obtain ⟨e', ⟨v, _⟩, _⟩ := hq.2 rfl; exact v
    dsimp only at r1 r2 r3 r4 r5 r6
    have hw := hul ⟨((getS k.pl e.c.pg).1.setc i e.c.a).id, n1, ((getS k.pl e.c.pg).1.setc i e.c.a).cel⟩
    have F := (And.intro @hi @hce)
    refine rn F ?_
    repeat' (first
      | with_reducible exact ⟨⟩
      | (refine sB F ?_ ?_ <;> intro hZ)
      | refine vp F (c2) ?_
      | refine vp F (c3 _) ?_)
    all_goals generalize updS k.pl ⟨((getS k.pl e.c.pg).1.setc i e.c.a).id, n1, ((getS k.pl e.c.pg).1.setc i e.c.a).cel⟩ = w at *
    · exact ⟨rfl, rfl, (k, w.2), rfl, h', fun h => absurd h (by assumption), fun _ => rfl⟩
    · exact ⟨rfl, rfl, (⟨k1.pg, k1.nx, k1.lg, w.1, k1.lk, k1.tx, k1.ix, k1.la⟩, 0), rfl, ⟨r1, hw, r3, r4, r5, r6⟩, fun _ => ⟨q1, q2, q3, hv⟩, fun h => absurd rfl h⟩
  · skip
    have F := @he1
    refine rn F ?_
    exact ⟨rfl, rfl, (k, e1), rfl, h', fun h => absurd h he1, fun _ => rfl⟩
structure Ac where
  kind : Int
  pg : Int
  sl : Int
  data : List UInt8
@[go_sem] def Ac.d (a : Ac) : List DV := [.int .i64 a.kind, .int .i64 a.pg, .int .i64 a.sl, .pv (.str a.data)]
theorem useS_len (p : Pl) (a : Int) (h : p.fs.length ≤ 64) : (useS p a).fs.length ≤ 64 := by
  unfold useS
  split
  · exact h
  · simpa using h
theorem getS_no {p : Pl} {a : Int} (hp : plB p = true) (h : (getS p a).2 = false) : idF p.fs a < 0 := by
  unfold getS findS at h
  rw [hp] at h
  simp only [if_true] at h
  split at h
  · assumption
  · simp at h
def accQ (k : Kn) (a : Ac) (r : Kn × Rs) : Prop := r.1.sm ∧ Ev k.lg r.1.lg ∧ (r.2.st = 3 → r.1 = k ∧ r.2.pg = a.pg ∧ idF k.pl.fs a.pg < 0)
theorem raccess_w (k : Kn) (h : k.sm) (hv : VK k) (tx : Int) (a : Ac) (ha : 0 ≤ a.sl ∧ a.sl < 16) : VCalls prog 187 [.agg k.d, .int .i64 tx, .agg a.d] [] (RetS krD (accQ k a)) := by
  refine dk Tryz.func187 ?_
  have h' := h
  obtain ⟨h1, h2, h3, h4, h5, h6⟩ := h
  have c1 := rpget_v k.pl (by omega) a.pg
  have c2 := rpuse_v k.pl (by omega) a.pg
  have hn := getS_no (a := a.pg) hv.2.2.2.1
  have hul := useS_len k.pl a.pg h2
  have c3 := fun c => rset_w k h' ⟨0, 1, tx, 0, 0, 0, c, []⟩ (.inl rfl)
  obtain ⟨i, hi⟩ : ∃ i : Nat, a.sl = i := ⟨a.sl.toNat, by omega⟩
  have hi16 : i < 16 := by omega
  generalize getS k.pl a.pg = g at *
  have hce := cel_at g.1 i hi16
  generalize useS k.pl a.pg = up at *
  (unfold Tryz.f187; refine rn trivial ?_)
  have F := (And.intro @hi @hce)
  refine rn F ?_
  repeat' (first
    | with_reducible exact ⟨⟩
    | (refine sB F ?_ ?_ <;> intro hZ)
    | refine vp F (c1) ?_
    | refine vp F (c2) ?_
    | (refine vc_S (c3 ⟨_, _, ⟨_, _⟩, ⟨_, _⟩⟩) rfl ?_; rintro ⟨k1, e1⟩ hq; refine rn F ?_)
    | refine vp F (failed_v _) ?_
    | (refine vspine (id := 3) [0, 1, 2, 3] [⟨[], [], 4, [1, 2, 3], []⟩, ⟨[], [], 5, [], []⟩] (by kernel_rfl) (by kernel_rfl) ?_; refine rn F ?_)
    | (refine vspine (id := 6) [0, 1, 2, 3, 4, 5, 6] [⟨[], [], 7, [1, 2, 3, 4, 5, 6], []⟩, ⟨[], [], 8, [], []⟩] (by kernel_rfl) (by kernel_rfl) ?_; refine rn F ?_)
    | (refine vspine (id := 7) [0, 1, 2, 3, 4, 5, 6, 7, 8, 9] [⟨[10], [10], 11, [], []⟩] (by kernel_rfl) (by kernel_rfl) ?_; refine rn F ?_)
    | (refine vspine (id := 12) [0, 1] [⟨[], [], 2, [0], []⟩, ⟨[], [], 3, [1], []⟩, ⟨[], [], 4, [], []⟩] (by kernel_rfl) (by kernel_rfl) ?_; refine rn F ?_))
  all_goals first
    | exact ⟨rfl, rfl, (k, ⟨3, 0, a.pg, Ce0, 0⟩), rfl, h', Ev.refl _, fun _ => ⟨rfl, rfl, hn (by first | assumption | simp_all)⟩⟩
    | exact ⟨rfl, rfl, (⟨k.pg, k.nx, k.lg, up, k.lk, k.tx, k.ix, k.la⟩, ⟨1, 0, 0, g.1.cel i, 0⟩), rfl, ⟨h1, hul, h3, h4, h5, h6⟩, Ev.refl _, fun h => by simp at h⟩
    | exact ⟨rfl, rfl, (k, failR e1), rfl, h', Ev.refl _, fun h => by simp [failR] at h⟩
    | exact ⟨rfl, rfl, (k1, ⟨1, 0, 0, Ce0, 0⟩), rfl, hq.1, (hq.2.1 (by dsimp only; omega)).1, fun h => by simp at h⟩
    | skip
end
theorem allEqA (a b c a' b' c' : Int) (d d' : List UInt8) : allEq [.pv (.lit (.int .i64 a)), .pv (.lit (.int .i64 b)), .pv (.lit (.int .i64 c)), .pv (.str d)] [.pv (.lit (.int .i64 a')), .pv (.lit (.int .i64 b')), .pv (.lit (.int .i64 c')), .pv (.str d')] [(0, 1), (1, 1), (2, 1), (3, 2)] = some (decide (a = a') && decide (b = b') && decide (c = c') && decide (d = d')) := by simp [allEq, leafEq, Bool.beq_eq_decide_eq, Bool.and_assoc]
def actQ (k : Kn) (a : Ac) (e : Int) : Prop := e = 0 → (1 ≤ a.kind ∧ a.kind ≤ 7) ∧ (a.kind ≤ 3 → 0 ≤ a.sl ∧ a.sl < 16)
theorem raction_w (k : Kn) (a : Ac) : VCalls prog 224 [.agg k.d, .agg a.d] [] (RetS inD (actQ k a)) := by
  refine dk Tryz.func224 ?_
  unfold actQ
  (unfold Tryz.f224; refine rn trivial ?_)
  have F := @allEqA
  refine rn F ?_
  repeat' (first
    | with_reducible exact ⟨⟩
    | (refine sG F ?_ ?_ <;> intro hZ)
    | (refine sB F ?_ ?_ <;> intro hZ)
    | (refine vspine (id := 9) [0, 1, 2, 3, 4] [⟨[], [], 5, [2, 3], [6]⟩, ⟨[], [], 7, [], []⟩] (by kernel_rfl) (by kernel_rfl) ?_; refine rn F ?_))
  all_goals first
    | exact ⟨rfl, rfl, _, rfl, fun h => absurd h (by decide)⟩
    | exact ⟨rfl, rfl, 0, rfl, fun _ => ⟨⟨by omega, by omega⟩, fun _ => ⟨by omega, by omega⟩⟩⟩
    | skip
@[go_sem] def gbD (a : Gr × Bool) : DV := .tup [.agg a.1.d, .bool a.2]
theorem rlock_w (tx : Int) (a : Ac) : VCalls prog 185 [.int .i64 tx, .agg a.d] [] (RetS gbD fun _ => True) := by
  refine dd Tryz.func185 ?_
  (unfold Tryz.f185; refine rn trivial ?_)
  refine rn F ?_
  repeat' (first
    | with_reducible exact ⟨⟩
    | (refine sB F ?_ ?_ <;> intro hZ))
  all_goals first
    | exact ⟨rfl, rfl, (⟨_, _, _, _⟩, _), rfl, trivial⟩
    | skip
def refQ (k : Kn) (tx : Int) (a : Ac) (e : Int) : Prop := e = 0 → VK k ∧ 0 ≤ idT k.tx tx ∧ (1 ≤ a.kind ∧ a.kind ≤ 7) ∧ (a.kind ≤ 3 → 0 ≤ a.sl ∧ a.sl < 16)
theorem rrefused_w (k : Kn) (h : k.sm) (tx : Int) (a : Ac) : VCalls prog 180 [.agg k.d, .int .i64 tx, .agg a.d] [] (RetS inD (refQ k tx a)) := by
  refine dk Tryz.func180 ?_
  have c1 := rkvalid_w k h
  obtain ⟨h1, h2, h3, h4, h5, h6⟩ := h
  have c2 := rfind_v k.tx (Nat.le_trans h4.1 (by decide)) tx
  have c3 := raction_w k a
  have c4 := rwaiting_w k.lk (by omega) tx
  have c5 := rlock_w tx a
  unfold refQ
  rcases idT_cases k.tx tx with hn | ⟨i, hil, hid, _⟩
  · rw [hn] at c2
    (unfold Tryz.f180; refine rn trivial ?_)
    refine rn F ?_
    repeat' (first
      | with_reducible exact ⟨⟩
      | (refine sB F ?_ ?_ <;> intro hZ)
      | (refine vc_S (c1) rfl ?_; rintro b hb; refine rn F ?_)
      | refine vp F (c2) ?_)
    all_goals exact ⟨rfl, rfl, _, rfl, fun h => absurd h (by decide)⟩
  rw [hid] at c2
  have hg := fzT_g k.tx i hil
  (unfold Tryz.f180; refine rn trivial ?_)
  have F := (And.intro @hg @allEq4)
  refine rn F ?_
  repeat' (first
    | with_reducible exact ⟨⟩
    | (refine sG F ?_ ?_ <;> intro hZ)
    | (refine sB F ?_ ?_ <;> intro hZ)
    | (refine vc_S (c1) rfl ?_; rintro b hb; refine rn F ?_)
    | refine vp F (c2) ?_
    | (refine vc_S (c3) rfl ?_; rintro e3 he3; refine rn F ?_)
    | (refine vc_S (c4) rfl ?_; rintro ⟨w, ws⟩ -; refine rn F ?_)
    | (refine vc_S (c5) rfl ?_; rintro ⟨g, nd⟩ -; refine rn F ?_))
  all_goals first
    | exact ⟨rfl, rfl, _, rfl, fun h => absurd h (by first | assumption | decide)⟩
    | exact ⟨rfl, rfl, 0, rfl, fun _ => ⟨hb (by assumption), by omega, (he3 (by omega)).1, (he3 (by omega)).2⟩⟩
    | skip
theorem rkfor_w (k : Kn) (h : k.lk.sum ≤ 5000) (tx : Int) : VCalls prog 189 [.agg k.d, .int .i64 tx] [] (RetS inD fun _ => True) := by
  refine dd Tryz.func189 ?_
  have c1 := rfor_w k.lk h tx
  (unfold Tryz.f189; refine rn trivial ?_)
  refine rn F ?_
  repeat' (first
    | with_reducible exact ⟨⟩
    | (refine vc_S (c1) rfl ?_; rintro m -; refine rn F ?_)
    | (refine vc_S (rfirst_w m) rfl ?_; rintro n -; refine rn F ?_))
  exact ⟨rfl, rfl, _, rfl, trivial⟩
def doQ (k : Kn) (a : Ac) (r : Kn × Rs) : Prop := r.1.sm ∧ Ev k.lg r.1.lg ∧ (r.2.st = 3 → r.1.pl = k.pl ∧ r.2.pg = a.pg ∧ idF k.pl.fs a.pg < 0)
theorem rkdo_w (k : Kn) (h : k.sm) (tx : Int) (a : Ac) : VCalls prog 135 [.agg k.d, .int .i64 tx, .agg a.d] [] (RetS krD (doQ k a)) := by
  refine dk Tryz.func135 ?_
  have h' := h
  have c1 := rrefused_w k h tx a
  have c2 := rcommit_w k h tx
  have c3 := rleave_w k h tx 1
  obtain ⟨h1, h2, h3, h4, h5, h6⟩ := h
  have hsl := h4.smL (by omega)
  have c4 := rsave_v k.tx hsl tx
  have c5 := rback_v k.tx hsl tx a.sl
  have m4 := saveS_sm (l := k.tx) tx
  have m5 := backS_sm (l := k.tx) tx a.sl
  have c6 := rlock_w tx a
  have c7 := fun g => rrequest_w k.lk (by omega) g
  have hK := fun (u : Lk) (hu : u.sum ≤ 1024) => (⟨h1, h2, hu, h4, h5, h6⟩ : Kn.sm ⟨k.pg, k.nx, k.lg, k.pl, u, k.tx, k.ix, k.la⟩)
  have c8 := fun (u : Lk) (hu : u.sum ≤ 1024) (hv : VK k) => raccess_w ⟨k.pg, k.nx, k.lg, k.pl, u, k.tx, k.ix, k.la⟩ (hK u hu) hv tx a
  have c9 := fun (u : Lk) (hu : u.sum ≤ 1024) => rcycle_w u (by omega) tx
  have c10 := fun (u : Lk) (hu : u.sum ≤ 1024) => rleave_w ⟨k.pg, k.nx, k.lg, k.pl, u, k.tx, k.ix, k.la⟩ (hK u hu) tx 4
  (unfold Tryz.f135; refine rn trivial ?_)
  refine vc_S c1 rfl ?_
  rintro er her
  by_cases he : er = 0
  rotate_left
  · skip
    have F := @he
    refine rn F ?_
    repeat' (first
      | with_reducible exact ⟨⟩
      | refine vp F (failed_v _) ?_
      | (refine vspine (id := 3) [0, 1] [⟨[], [], 2, [0], []⟩, ⟨[], [], 3, [1], []⟩, ⟨[], [], 4, [], []⟩] (by kernel_rfl) (by kernel_rfl) ?_; refine rn F ?_))
    exact ⟨rfl, rfl, (k, failR er), rfl, h', Ev.refl _, fun h => by simp [failR] at h⟩
  obtain ⟨hv, hi, hk, hs⟩ := her he
  subst he
  have F := trivial
  refine rn F ?_
  repeat' (first
    | with_reducible exact ⟨⟩
    | (refine sB F ?_ ?_ <;> intro hZ)
    | (refine vc_S (c2 hi) rfl ?_; rintro ⟨k1, r1⟩ hq; refine rn F ?_)
    | (refine vc_S (c3 hi) rfl ?_; rintro ⟨k1, r1⟩ hq; refine rn F ?_)
    | refine vp F (c4) ?_
    | refine vp F (c5) ?_
    | refine vp F (failed_v _) ?_
    | (refine vc_S (c6) rfl ?_; rintro ⟨g, nd⟩ -; refine rn F ?_)
    | (refine vc_S (c7 ⟨_, _, _, _⟩) rfl ?_; rintro ⟨u, hd, e7⟩ hu; refine rn F ?_)
    | (refine vc_S (c8 u hu hv (hs (by omega))) rfl ?_; rintro ⟨k1, r1⟩ hq; refine rn F ?_)
    | (refine vc_S (c9 u hu) rfl ?_; rintro cy -; refine rn F ?_)
    | (refine vc_S (c10 u hu hi) rfl ?_; rintro ⟨k1, r1⟩ hq; refine rn F ?_)
    | (refine vc_S (rkfor_w ⟨k.pg, k.nx, k.lg, k.pl, u, k.tx, k.ix, k.la⟩ (Nat.le_trans hu (by decide)) tx) rfl ?_; rintro n -; refine rn F ?_)
    | (refine vspine (id := 15) [0, 1] [⟨[], [], 2, [0], []⟩, ⟨[], [], 3, [1], []⟩, ⟨[], [], 4, [], []⟩] (by kernel_rfl) (by kernel_rfl) ?_; refine rn F ?_)
    | (refine vspine (id := 21) [0, 1] [⟨[], [], 2, [0], []⟩, ⟨[], [], 3, [1], []⟩, ⟨[], [], 4, [], []⟩] (by kernel_rfl) (by kernel_rfl) ?_; refine rn F ?_)
    | (refine vspine (id := 27) [0, 1] [⟨[], [], 2, [1], []⟩, ⟨[], [], 3, [], []⟩] (by kernel_rfl) (by kernel_rfl) ?_; refine rn F ?_)
    | (refine vspine (id := 28) [0, 1] [⟨[], [], 2, [1], []⟩, ⟨[], [], 3, [], []⟩] (by kernel_rfl) (by kernel_rfl) ?_; refine rn F ?_)
    | (refine vspine (id := 32) [0, 1] [⟨[], [], 2, [1], []⟩, ⟨[], [], 3, [], []⟩] (by kernel_rfl) (by kernel_rfl) ?_; refine rn F ?_)
    | (refine vspine (id := 33) [0, 1] [⟨[], [], 2, [1], []⟩, ⟨[], [], 3, [], []⟩] (by kernel_rfl) (by kernel_rfl) ?_; refine rn F ?_)
    | (refine vspine (id := 34) [0, 1, 2] [⟨[], [], 3, [0], [4]⟩, ⟨[], [], 5, [1, 2, 4], []⟩, ⟨[], [], 6, [], []⟩] (by kernel_rfl) (by kernel_rfl) ?_; refine rn F ?_))
  all_goals first
    | exact ⟨rfl, rfl, (k, failR _), rfl, h', Ev.refl _, fun h => by simp [failR] at h⟩
    | exact ⟨rfl, rfl, (⟨k.pg, k.nx, k.lg, k.pl, k.lk, (saveS k.tx tx).1, k.ix, k.la⟩, ⟨1, 0, 0, Ce0, 0⟩), rfl, ⟨h1, h2, h3, m4, h5, h6⟩, Ev.refl _, fun h => by simp at h⟩
    | exact ⟨rfl, rfl, (⟨k.pg, k.nx, k.lg, k.pl, k.lk, (backS k.tx tx a.sl).1, k.ix, k.la⟩, ⟨1, 0, 0, Ce0, 0⟩), rfl, ⟨h1, h2, h3, m5, h5, h6⟩, Ev.refl _, fun h => by simp at h⟩
    | exact ⟨rfl, rfl, (⟨k.pg, k.nx, k.lg, k.pl, u, k.tx, k.ix, k.la⟩, ⟨2, n, 0, Ce0, 0⟩), rfl, hK u hu, Ev.refl _, fun h => by simp at h⟩
    | exact ⟨rfl, rfl, (k1, r1), rfl, hq.1, hq.2.1, fun h => absurd h hq.2.2⟩
    | exact ⟨rfl, rfl, (k1, r1), rfl, hq.1, hq.2.1, fun h => ⟨Eq.trans (congrArg Kn.pl (hq.2.2 h).1) rfl, (hq.2.2 h).2.1, (hq.2.2 h).2.2⟩⟩
    | exact ⟨rfl, rfl, (k1, r1), rfl, hq.1, hq.2.1, fun h => by have := hq.2.2; dsimp only at this h; omega⟩
    | exact ⟨rfl, rfl, (k, r1), rfl, h', Ev.refl _, fun h => by dsimp only at h; omega⟩
    | skip
section
attribute [local go_sem] iteLe
theorem idF_ex {l : List Fm} {a : Int} (h : ∃ i, i < l.length ∧ a = (l.getD i Fm0).pg.id) : ∃ j : Nat, j < l.length ∧ idF l a = j ∧ (l.getD j Fm0).pg.id = a := by
  obtain ⟨i, hi, ha⟩ := h
  rcases idF_cases l a with hn | ⟨j, hj, h1, h2⟩
  · unfold idF idxP at hn
    rw [if_pos (List.any_eq_true.2 ⟨l[i], List.getElem_mem hi, by rw [ha, getD_eq l i hi]; simp⟩)] at hn
    omega
  · exact ⟨j, hj, h1, h2⟩
theorem dropS_len (p : Pl) (a : Int) (h : p.fs.length ≤ 64) : (dropS p a).1.fs.length ≤ 64 := by
  unfold dropS
  repeat' split
  all_goals first
    | exact Nat.zero_le _
    | (simp only [List.length_append, List.length_take, List.length_drop]; omega)
@[go_sem] def roomD (a : Kn × Pg × Bool × Int) : DV := .tup [.agg a.1.d, .agg a.2.1.d, .bool a.2.2.1, .int .i64 a.2.2.2]
def roomQ (k : Kn) (a : Kn × Pg × Bool × Int) : Prop := a.1.sm ∧ (a.2.2.2 = 0 → Ev k.lg a.1.lg ∧ a.1.tx = k.tx ∧ (a.2.2.1 = true → plB a.1.pl = true ∧ SameF k.pl.fs a.1.pl.fs ∧ ∃ i, i < a.1.pl.fs.length ∧ idF a.1.pl.fs a.2.1.id = i ∧ (a.1.pl.fs.getD i Fm0).pg = a.2.1 ∧ (a.1.pl.fs.getD i Fm0).dirty = true))
theorem rroom_w (k : Kn) (h : k.sm) : VCalls prog 167 [.agg k.d] [] (RetS roomD (roomQ k)) := by
  refine dk Tryz.func167 ?_
  have h' := h
  have c1 := rkvalid_w k h
  obtain ⟨h1, h2, h3, h4, h5, h6⟩ := h
  have c2 := rpvic_v k.pl (by omega)
  (unfold Tryz.f167; refine rn trivial ?_)
  refine vc_S c1 rfl ?_
  rintro b hb
  cases b
  · skip
    refine rn F ?_
    exact ⟨rfl, rfl, (Kn0, Pg0, false, 15), rfl, Kn0_sm, fun h => by simp at h⟩
  have hv := hb rfl
  obtain ⟨v1, v2, v3, v4, v5, v6, v7⟩ := hb rfl
  have hd := plB_hd v4
  simp only [Pl.hd] at hd
  refine rn F ?_
  repeat' (first
    | with_reducible exact ⟨⟩
    | (refine sB F ?_ ?_ <;> intro hZ))
  · exact ⟨rfl, rfl, (k, Pg0, false, 0), rfl, h', fun _ => ⟨Ev.refl _, rfl, fun h => by simp at h⟩⟩
  refine vc_S c2 rfl ?_
  rintro ⟨p, id, e⟩ ⟨w1, w2, w3⟩
  obtain rfl : e = 0 := w2 v4 (by omega)
  obtain ⟨_, w4, w5, w6, w7⟩ := w1 rfl
  obtain ⟨i, hi, hid, hix⟩ := idF_ex w7
  dsimp only at w3 w4 w5 w6 hi hid hix
  have c3 := rpfind_v p (by omega) id
  have hf : findS p id = i := by unfold findS; rw [if_pos w4]; exact hid
  rw [hf] at c3
  have hg := fzF_at p.fs i hi
  have c4 := rpdrop_v p (by omega) id
  have hdl := dropS_len p id (by omega)
  have hsm : ∀ q : Pl, q.fs.length ≤ 64 → (⟨k.pg, k.nx, k.lg, q, k.lk, k.tx, k.ix, k.la⟩ : Kn).sm := fun q hq => ⟨h1, hq, h3, h4, h5, h6⟩
  have c5 := rkforce_w ⟨k.pg, k.nx, k.lg, p, k.lk, k.tx, k.ix, k.la⟩ (hsm p (by omega))
  generalize hff : p.fs.getD i Fm0 = f at *
  have F := @hg
  refine rn F ?_
  repeat' (first
    | with_reducible exact ⟨⟩
    | (refine sB F ?_ ?_ <;> intro hZ)
    | refine vp F (c3) ?_
    | refine vp F (c4) ?_
    | (refine vc_S (c5 _) rfl ?_; rintro d hd2; refine rn F ?_)
    | (refine vspine (id := 7) [0, 1, 2, 3] [⟨[7], [], 4, [0, 1], [5, 6]⟩, ⟨[7], [7], 8, [], []⟩] (by kernel_rfl) (by kernel_rfl) ?_; refine rn F ?_)
    | (refine vspine (id := 11) [0, 1, 2, 3, 5, 6] [⟨[], [], 4, [1, 2, 5, 6], []⟩, ⟨[], [], 7, [5, 6], []⟩, ⟨[], [], 8, [], []⟩, ⟨[], [], 9, [], []⟩, ⟨[], [], 10, [], []⟩] (by kernel_rfl) (by kernel_rfl) ?_; refine rn F ?_))
  · exact ⟨rfl, rfl, (⟨k.pg, k.nx, k.lg, (dropS p id).1, k.lk, k.tx, k.ix, k.la⟩, Pg0, false, 0), rfl, hsm _ hdl, fun _ => ⟨Ev.refl _, rfl, fun h => by simp at h⟩⟩
  · exact ⟨rfl, rfl, (⟨k.pg, k.nx, ⟨k.lg.f, k.lg.es, d⟩, p, k.lk, k.tx, k.ix, k.la⟩, f.pg, true, 0), rfl, ⟨h1, by dsimp only; omega, h3, h4, h5, h6⟩, fun _ => ⟨Ev.force hd2, rfl, fun _ => ⟨w4, w5, i, hi, by dsimp only; rw [hix]; exact hid, by dsimp only; rw [hff], by dsimp only; rw [hff]; first | assumption | simp_all⟩⟩⟩
@[go_sem] def flushD (a : Kn × Pg × Int) : DV := .tup [.agg a.1.d, .agg a.2.1.d, .int .i64 a.2.2]
def flushQ (k : Kn) (n : Int) (a : Kn × Pg × Int) : Prop := a.1.sm ∧ (a.2.2 = 0 → Ev k.lg a.1.lg ∧ 0 ≤ findS k.pl n)
theorem rflush_w (k : Kn) (h : k.sm) (n : Int) : VCalls prog 91 [.agg k.d, .int .i64 n] [] (RetS flushD (flushQ k n)) := by
  refine dk Tryz.func91 ?_
  have c1 := rkvalid_w k h
  have h' := h
  obtain ⟨h1, h2, h3, h4, h5, h6⟩ := h
  have c2 := rpget_v k.pl (by omega) n
  have c3 := rkforce_w k h'
  have hz : (getS k.pl n).2 = true → 0 ≤ findS k.pl n := fun h => by
    unfold getS at h
    split at h
    · simp at h
    · omega
  generalize getS k.pl n = g at *
  (unfold Tryz.f91; refine rn trivial ?_)
  refine rn F ?_
  repeat' (first
    | with_reducible exact ⟨⟩
    | (refine sB F ?_ ?_ <;> intro hZ)
    | (refine vc_S (c1) rfl ?_; rintro b -; refine rn F ?_)
    | refine vp F (c2) ?_
    | (refine vc_S (c3 _) rfl ?_; rintro d hd; refine rn F ?_)
    | (refine vspine (id := 6) [0, 1, 2, 4] [⟨[], [], 3, [1, 4], []⟩, ⟨[], [], 5, [4], []⟩, ⟨[], [], 6, [], []⟩, ⟨[], [], 7, [], []⟩] (by kernel_rfl) (by kernel_rfl) ?_; refine rn F ?_))
  all_goals first
    | exact ⟨rfl, rfl, (Kn0, Pg0, 15), rfl, Kn0_sm, fun h => by simp at h⟩
    | exact ⟨rfl, rfl, (Kn0, Pg0, 18), rfl, Kn0_sm, fun h => by simp at h⟩
    | exact ⟨rfl, rfl, (⟨k.pg, k.nx, ⟨k.lg.f, k.lg.es, d⟩, k.pl, k.lk, k.tx, k.ix, k.la⟩, g.1, 0), rfl, ⟨h1, h2, h3, h4, h5, h6⟩, fun _ => ⟨Ev.force hd, hz (by first | assumption | simp_all)⟩⟩
    | skip
theorem cleanS_len (p : Pl) (a n : Int) (h : p.fs.length ≤ 64) : (cleanS p a n).1.fs.length ≤ 64 := by
  unfold cleanS
  repeat' split
  all_goals first | exact Nat.zero_le _ | exact h | simpa using h
def writtenQ (k : Kn) (id n : Int) (a : Kn × Int) : Prop := a.1.sm ∧ (a.2 = 0 → VK k ∧ Ev k.lg a.1.lg ∧ a.1.tx = k.tx ∧ (0 ≤ findS k.pl id → a.1.pl = (cleanS k.pl id n).1 ∧ (cleanS k.pl id n).2 = 0) ∧ (findS k.pl id < 0 → a.1.pl = k.pl))
theorem rwritten_w (k : Kn) (h : k.sm) (id n : Int) : VCalls prog 113 [.agg k.d, .int .i64 id, .int .i64 n] [] (RetS kiD (writtenQ k id n)) := by
  refine dk Tryz.func113 ?_
  have c1 := rkvalid_w k h
  have h' := h
  obtain ⟨h1, h2, h3, h4, h5, h6⟩ := h
  have c2 := rlLast_v k.lg (by omega)
  have c3 := rpfind_v k.pl (by omega) id
  have c4 := fun (h : n ≤ 1099511627776) (h0 : 0 ≤ n) => rpclean_v k.pl (by omega) id n h h0
  have c5 := rkadd_w k h' ⟨0, 7, 0, 0, 0, n, ⟨id, 0, Ce0, Ce0⟩, []⟩
  have hcl := cleanS_len k.pl id n h2
  (unfold Tryz.f113; refine rn trivial ?_)
  refine vc_S c1 rfl ?_
  rintro b hb
  cases b
  · skip
    refine rn F ?_
    exact ⟨rfl, rfl, (Kn0, 15), rfl, Kn0_sm, fun h => by simp at h⟩
  have hv := hb rfl
  have hls : lastS k.lg ≤ 1099511627776 := by
    unfold lastS; rw [if_pos hv.2.2.1]; exact lgB_end hv.2.2.1
  refine rn F ?_
  repeat' (first
    | with_reducible exact ⟨⟩
    | (refine sG F ?_ ?_ <;> intro hZ)
    | (refine sB F ?_ ?_ <;> intro hZ)
    | refine vp F (c2) ?_
    | refine vp F (c3) ?_
    | refine vp F (c4 (by omega) (by omega)) ?_
    | (refine vc_S (c5) rfl ?_; rintro ⟨k1, n1, e1⟩ hq; refine rn F ?_))
  all_goals first
    | exact ⟨rfl, rfl, (Kn0, 1), rfl, Kn0_sm, fun h => by simp at h⟩
    | exact ⟨rfl, rfl, (Kn0, (cleanS k.pl id n).2), rfl, Kn0_sm, fun h => absurd h (by assumption)⟩
    | exact ⟨rfl, rfl, (Kn0, e1), rfl, Kn0_sm, fun h => absurd h (by assumption)⟩
    | (have he1 : e1 = 0 := by omega
       obtain ⟨q1, q2, q3, q4, q5, q6, q7⟩ := addQ_ev hq he1
       have q8 := addQ_none hq he1 rfl
       obtain ⟨r1, r2, r3, r4, r5, r6⟩ := hq.1
       first
         | exact ⟨rfl, rfl, (⟨k1.pg, k1.nx, k1.lg, (cleanS k.pl id n).1, k1.lk, k1.tx, k1.ix, k1.la⟩, 0), rfl, ⟨r1, hcl, r3, r4, r5, r6⟩, fun _ => ⟨hv, q1, q8, fun _ => ⟨rfl, by omega⟩, fun h => by omega⟩⟩
         | exact ⟨rfl, rfl, (⟨k1.pg, k1.nx, k1.lg, k.pl, k1.lk, k1.tx, k1.ix, k1.la⟩, 0), rfl, ⟨r1, h2, r3, r4, r5, r6⟩, fun _ => ⟨hv, q1, q8, fun h => by omega, fun _ => rfl⟩⟩)
    | skip
end
section
attribute [local go_sem] iteLe
theorem putS_ok {p : Pl} {x : Pg} (h : (putS p x).2 = 0) : plB p = true ∧ checkS x = 0 ∧ idF p.fs x.id < 0 ∧ ¬ (p.fs.length : Int) = p.size := by
  unfold putS at h
  split at h
  · simp at h
  rename_i q1
  split at h
  · rename_i q2; exact absurd h q2
  rename_i q2
  split at h
  · simp at h
  rename_i q3
  split at h
  · simp at h
  rename_i q4
  exact ⟨by simpa using q1, by simpa using q2, by omega, q4⟩
def putH (p : Pl) (x : Pg) (o : Nat) : Heap := [⟨73, true, [.int .i64 p.size, .own (o + 5) 37 0 (p.fs.length + 1), .int .i64 p.hand]⟩, ⟨168, true, x.d⟩, ⟨73, true, [.int .i64 p.size, .own (o + 5) 37 0 (p.fs.length + 1), .int .i64 p.hand]⟩, ⟨172, false, []⟩, ⟨172, true, Fm.d ⟨x, false, 0, true⟩⟩, ⟨172, true, cells encF (p.fs ++ [⟨x, false, 0, true⟩])⟩]
theorem rpput_k (p : Pl) (hl : p.fs.length ≤ 100000) (x : Pg) (h : (putS p x).2 = 0) : VCalls prog 171 [.agg p.d, .agg x.d] [] fun r h' => r = .tup [.agg [.int .i64 p.size, .own 5 37 0 (p.fs.length + 1), .int .i64 p.hand], .int .i64 0] ∧ h' = putH p x 0 := by
  refine vcalls_keep (fn := Tryz.f171) Tryz.func171 rfl (by kernel_rfl) (by simp [Tryz.f171]) ?_
  obtain ⟨e1, e2, e3, e4⟩ := putS_ok h
  have c1 := rplvalid_v p (by omega)
  have c2 := rcheck_v x
  have c3 := rffind_v p (by omega) x.id
  rw [e1] at c1
  rw [e2] at c2
  have e5 : ¬ 0 ≤ idF p.fs x.id := by omega
  generalize idF p.fs x.id = m at *
  (unfold Tryz.f171; refine rn trivial ?_)
  have F := (And.intro @e5 @e4)
  refine rn F ?_
  repeat' (first
    | with_reducible exact ⟨⟩
    | refine vp F (c1) ?_
    | refine vp F (c2) ?_
    | refine vp F (c3) ?_
    | (refine vspine (id := 10) [0, 1, 3, 4] [⟨[5], [], 2, [0, 3, 4], []⟩, ⟨[5], [5], 6, [0, 1, 3, 4], [7]⟩, ⟨[], [], 8, [], []⟩] (by kernel_rfl) (by kernel_rfl) ?_; refine rn F ?_))
  all_goals rfl
theorem behind_nil (hp h' : Heap) : behind hp [] h' = hp ++ h'.map (renB (back [] hp.length)) := by
  unfold behind
  congr 1
  apply List.ext_getElem?
  intro k
  rw [List.getElem?_map]
  by_cases hk : k < hp.length
  · rw [List.getElem?_range hk]
    simp [List.getElem?_eq_getElem hk]
  · rw [List.getElem?_eq_none (l := List.range hp.length) (by simpa using hk), List.getElem?_eq_none (l := hp) (by omega)]
    rfl
theorem vc_put {hp : Heap} {K : DV → Heap → Prop} (p : Pl) (hl : p.fs.length ≤ 100000) (x : Pg) (hz : (putS p x).2 = 0) (h : K (.tup [.agg [.int .i64 p.size, .own (hp.length + 5) 37 0 (p.fs.length + 1), .int .i64 p.hand], .int .i64 0]) (hp ++ putH p x hp.length)) : VCalls prog 171 [.agg p.d, .agg x.d] hp K := by
  refine (VCalls.frame [] List.nodup_nil rfl rfl (rpput_k p hl x hz) rfl rfl).mono ?_
  rintro r h2 ⟨r0, h', ⟨rfl, rfl⟩, -, rfl, rfl⟩
  rw [behind_nil]
  have e1 : renB (back [] hp.length) ⟨168, true, x.d⟩ = ⟨168, true, x.d⟩ := renB_plain rfl
  have e2 : renB (back [] hp.length) ⟨172, true, Fm.d ⟨x, false, 0, true⟩⟩ = ⟨172, true, Fm.d ⟨x, false, 0, true⟩⟩ := renB_plain rfl
  have e3 : renB (back [] hp.length) ⟨172, true, cells encF (p.fs ++ [⟨x, false, 0, true⟩])⟩ = ⟨172, true, cells encF (p.fs ++ [⟨x, false, 0, true⟩])⟩ := renB_plain (cells_nums _ _ _)
  simp only [putH, List.map_cons, List.map_nil, e1, e2, e3] at h ⊢
  exact h
theorem setF34 (l : List Fm) (f : Fm) (b : Bool) : (cells encF (l ++ [f])).set (l.length * 37 + 34) (.pv (.lit (.bool b))) = cells encF (l ++ [⟨f.pg, b, f.rc, f.used⟩]) := by
  rw [← app_F, ← app_F, ← lenF l, List.set_append_right _ _ (Nat.le_add_right _ _), Nat.add_sub_cancel_left]; rfl
theorem setF35 (l : List Fm) (f : Fm) (n : Int) : (cells encF (l ++ [f])).set (l.length * 37 + 35) (.pv (.lit (.int .i64 n))) = cells encF (l ++ [⟨f.pg, f.dirty, n, f.used⟩]) := by
  rw [← app_F, ← app_F, ← lenF l, List.set_append_right _ _ (Nat.le_add_right _ _), Nat.add_sub_cancel_left]; rfl
def supQ (k : Kn) (x : Pg) (a : Kn × Int) : Prop := a.1.sm ∧ (a.2 = 0 → a.1.lg = k.lg ∧ a.1.tx = k.tx ∧ 0 ≤ idF a.1.pl.fs x.id)
theorem idF_last (l : List Fm) (f : Fm) : 0 ≤ idF (l ++ [f]) f.pg.id := by
  obtain ⟨j, _, h, _⟩ := idF_ex (l := l ++ [f]) (a := f.pg.id) ⟨l.length, by simp, by rw [List.getD_eq_getElem?_getD, List.getElem?_append_right (Nat.le_refl _), Nat.sub_self]; rfl⟩
  omega
theorem rsupply_w (k : Kn) (h : k.sm) (x : Pg) : VCalls prog 127 [.agg k.d, .agg x.d] [] (RetS kiD (supQ k x)) := by
  refine dk Tryz.func127 ?_
  have h' := h
  have c1 := rkvalid_w k h
  have c2 := rhead_w k h x.id
  obtain ⟨h1, h2, h3, h4, h5, h6⟩ := h
  have c3 := rpput_v k.pl (by omega) x
  have c4 := rlacks_w k (by omega) x.id
  (unfold Tryz.f127; refine rn trivial ?_)
  refine rn F ?_
  repeat' (first
    | with_reducible exact ⟨⟩
    | (refine sG F ?_ ?_ <;> intro hZ)
    | (refine sB F ?_ ?_ <;> intro hZ)
    | (refine vc_S (c1) rfl ?_; rintro b hb; refine rn F ?_)
    | (refine vc_S (c2) rfl ?_; rintro n -; refine rn F ?_)
    | (refine vspine (id := 5) [0, 1, 2, 3, 4] [⟨[], [], 5, [0, 1, 3], [6]⟩, ⟨[], [], 7, [0, 1, 2, 3, 4], []⟩] (by kernel_rfl) (by kernel_rfl) ?_; refine rn F ?_)
    | (refine vspine (id := 7) [0, 1, 2, 3, 4] [⟨[], [], 5, [0, 1, 3], [6]⟩, ⟨[], [], 7, [0, 1, 2, 3, 4], []⟩] (by kernel_rfl) (by kernel_rfl) ?_; refine rn F ?_))
  all_goals first
    | exact ⟨rfl, rfl, (Kn0, _), rfl, Kn0_sm, fun h => by simp at h⟩
    | skip
  have hpe : (putS k.pl x).2 ≠ 0 → (putS k.pl x).1 = Pl0 := fun h => by
    unfold putS at h ⊢
    repeat' split
    all_goals first | rfl | simp_all
  by_cases hz : (putS k.pl x).2 = 0
  rotate_left
  · rw [hpe hz] at c3
    have F := @hz
    refine rn F ?_
    repeat' (first
      | with_reducible exact ⟨⟩
      | refine vp F (c3) ?_)
    exact ⟨rfl, rfl, (Kn0, _), rfl, Kn0_sm, fun h => absurd h hz⟩
  refine vc_put k.pl (by omega) x hz ?_
  obtain ⟨p1, p2, p3, p4⟩ := putS_ok hz
  have hd := plB_hd p1
  simp only [Pl.hd] at hd
  unfold putH
  have s34 := setF34 k.pl.fs
  have s35 := setF35 k.pl.fs
  have hi0 := idF_last k.pl.fs
  have hnn : k.pl.fs.length + 1 - 1 = k.pl.fs.length := by omega
  have h34 : (k.pl.fs.length * 37 + 34 < (k.pl.fs.length + 1) * 37) = True := eq_true (by omega)
  have h35 : (k.pl.fs.length * 37 + 35 < (k.pl.fs.length + 1) * 37) = True := eq_true (by omega)
  have F := (And.intro @s34 (And.intro @s35 (And.intro @hnn (And.intro @h34 @h35))))
  refine rn F ?_
  repeat' (first
    | with_reducible exact ⟨⟩
    | (refine sB F ?_ ?_ <;> intro hZ)
    | (refine vc_S (c4) rfl ?_; rintro ⟨d, b2⟩ -; refine rn F ?_))
  rotate_left
  · exact ⟨rfl, rfl, (⟨k.pg, k.nx, k.lg, ⟨k.pl.size, k.pl.fs ++ [⟨x, false, 0, true⟩], k.pl.hand⟩, k.lk, k.tx, k.ix, k.la⟩, 0), rfl, ⟨h1, by simp; omega, h3, h4, h5, h6⟩, fun _ => ⟨rfl, rfl, hi0 ⟨x, false, 0, true⟩⟩⟩
  refine VLoop.nilOwn 10 180 3 rfl ?_
  refine rn trivial ?_
  refine vloopW (fun s : {s : Nat × List Dt // s.1 ≤ k.la.length ∧ s.2.length ≤ s.1} => ⟨113, 0, [(11, .int .i64 s.1.1), (10, .own 5 3 0 s.1.2.length), (6, .ptr 4 0), (4, .ptr 2 0), (3, .ptr 1 0), (2, .ptr 0 0)],
    [⟨83, true, k.d⟩, ⟨168, true, x.d⟩, ⟨83, true, [.int .i64 0, .int .i64 0, .int .i64 0, .pv (.slc []), .int .i64 0, .int .i64 0, .pv (.slc []), .int .i64 0, .pv (.slc []), .pv (.slc []), .pv (.slc []), .pv (.slc []), .pv (.slc [])]⟩, ⟨172, true, cells encF (k.pl.fs ++ [⟨x, true, d.rc, true⟩])⟩, ⟨73, true, [.int .i64 k.pl.size, .own 3 37 0 (k.pl.fs.length + 1), .int .i64 k.pl.hand]⟩, ⟨180, true, cells encY s.1.2⟩]⟩) (fun s => k.la.length - s.1.1) ⟨(0, []), by simp⟩ (gc [0, 1, 2, 8, 9, 11]) ?_
  rintro ⟨⟨i, out⟩, hi, ho⟩
  dsimp only at hi ho ⊢
  have hy := fun h : i < k.la.length => fzY_at k.la i h
  have hb : (out.length + 1) * 24 ≤ 140737488355328 := by omega
  have F := (And.intro @hy @hb)
  refine rn F ?_
  repeat' (first
    | with_reducible exact ⟨⟩
    | (refine sB F ?_ ?_ <;> intro hZ)
    | (refine vspine (id := 20) [0, 1, 2, 3, 4, 5, 6, 7, 8] [] (by kernel_rfl) (by kernel_rfl) ?_; refine rn F ?_))
  all_goals first
    | exact ⟨⟨(i + 1, out), by dsimp only; omega, by dsimp only; omega⟩, by dsimp only; omega, (gc [0, 1, 2, 3, 4, 5])⟩
    | exact ⟨⟨(i + 1, out ++ [⟨(k.la.getD i Dt0).pg, (k.la.getD i Dt0).rc, (k.la.getD i Dt0).last⟩]), by dsimp only; omega, by simp; omega⟩, by dsimp only; omega, by dsimp only; rw [List.length_append]; exact (gc [0, 1, 2, 3, 4, 7])⟩
    | exact ⟨rfl, rfl, (⟨k.pg, k.nx, k.lg, ⟨k.pl.size, k.pl.fs ++ [⟨x, true, d.rc, true⟩], k.pl.hand⟩, k.lk, k.tx, k.ix, out⟩, 0), rfl, ⟨h1, by simp; omega, h3, h4, h5, by dsimp only; omega⟩, fun _ => ⟨rfl, rfl, hi0 ⟨x, true, d.rc, true⟩⟩⟩
    | skip
end
theorem lenW (l : List (List UInt8)) : (cells encS l).length = l.length * 1 := cells_len encS l
theorem allW (l : List (List UInt8)) (n : Nat) (h : l.length * 1 ≤ n) : (cells encS l).take n = cells encS l := by rw [List.take_of_length_le]; rw [lenW]; exact h
theorem srcW (l : List (List UInt8)) : (fz encS l = [] ∨ (fz encS l)[0]?.map List.length = some 1) = True := fz_src encS l
theorem frzW {n : Nat} {hp : Heap} {len : Nat} {l : List (List UInt8)} (h : l.length = len) : frzC n hp 0 1 len (some (cells encS l)) = some (.sl (fz encS l)) := frzC_cells encS h
attribute [go_sem] lenW allW srcW frzW
theorem fzS_at (l : List (List UInt8)) (i : Nat) (h : i < l.length) : (fz encS l)[i]? = some [.str (l.getD i [])] := fz_getD encS l [] i h
theorem app_S (l : List (List UInt8)) (x : List UInt8) : cells encS l ++ [.pv (.str x)] = cells encS (l ++ [x]) := by rw [cells_app]; rfl
theorem wk_S (l : List (List UInt8)) : DV.wk.go (cells encS l) = cells encS l := wk_cells encS l fun a p hp => by
  simp [encS] at hp; subst hp; rfl
attribute [go_sem] app_S wk_S
structure Dv where
  ps : List (List UInt8)
  wr : Int
  dead : Bool
@[go_sem] def Dv.d (v : Dv) : List DV := [.pv (.sl (fz encS v.ps)), .int .i64 v.wr, .pv (.sl []), .bool v.dead, .pv (.sl [])]
def Dv0 : Dv := ⟨[], 0, false⟩
def DvOk (v : Dv) : Prop := (1 ≤ v.ps.length ∧ v.ps.length ≤ 64) ∧ (0 ≤ v.wr ∧ v.wr ≤ 1099511627776) ∧ ∀ i, i < v.ps.length → (v.ps.getD i []).length = 256
theorem rdvalid_w (v : Dv) (hl : v.ps.length ≤ 100000) : VCalls prog 194 [.agg v.d] [] (RetS boD fun b => b = true → DvOk v) := by
  refine dd Tryz.func194 ?_
  (unfold Tryz.f194; refine rn trivial ?_)
  refine rn F ?_
  repeat' (first
    | with_reducible exact ⟨⟩
    | (refine sG F ?_ ?_ <;> intro hZ))
  all_goals first
    | exact ⟨rfl, rfl, false, rfl, fun h => by cases h⟩
    | skip
  refine vloopW (fun s : Okay v.ps.length (fun i => decide ((v.ps.getD i []).length = 256)) => ⟨99, 0, [(4, .int .i64 s.i), (3, .int .i64 v.ps.length), (1, .ptr 0 0)], [⟨109, true, v.d⟩]⟩) (fun s => v.ps.length - s.i) (Okay.start _ _) (gc [0]) ?_
  intro s
  have hsi := s.hi
  have hg := fun h : s.i < v.ps.length => fzS_at v.ps s.i h
  have F := @hg
  refine rn F ?_
  repeat' (first
    | with_reducible exact ⟨⟩
    | (refine sB F ?_ ?_ <;> intro hZ))
  all_goals first
    | exact ⟨rfl, rfl, false, rfl, fun h => by cases h⟩
    | exact ⟨s.next (by omega) (decide_eq_true (by omega)), s.dec (by omega), (gc [0])⟩
    | skip
  have hall := s.all (by omega)
  simp only [List.all_eq_true, List.mem_range, decide_eq_true_eq] at hall
  refine vloopW (fun s : Unit => ⟨99, 0, [(5, .int .i64 0), (3, .int .i64 v.ps.length), (1, .ptr 0 0)], [⟨109, true, v.d⟩]⟩) (fun s => 0) () (gc [0]) ?_
  intro _
  have F := trivial
  refine rn F ?_
  refine vloopW (fun s : Unit => ⟨99, 0, [(6, .int .i64 0), (1, .ptr 0 0)], [⟨109, true, v.d⟩]⟩) (fun s => 0) () (gc [0]) ?_
  intro _
  have F := trivial
  refine rn F ?_
  exact ⟨rfl, rfl, true, rfl, fun _ => ⟨⟨by omega, by omega⟩, ⟨by omega, by omega⟩, fun i hi => hall i hi⟩⟩
def usQ (v : Dv) (n e : Int) : Prop := e = 0 → DvOk v ∧ 0 ≤ n ∧ n < v.ps.length
theorem rusable_w (v : Dv) (hl : v.ps.length ≤ 100000) (n : Int) : VCalls prog 145 [.agg v.d, .int .i64 n] [] (RetS inD (usQ v n)) := by
  refine dd Tryz.func145 ?_
  have c1 := rdvalid_w v hl
  unfold usQ
  (unfold Tryz.f145; refine rn trivial ?_)
  refine rn F ?_
  repeat' (first
    | with_reducible exact ⟨⟩
    | (refine sG F ?_ ?_ <;> intro hZ)
    | (refine sB F ?_ ?_ <;> intro hZ)
    | (refine vc_S (c1) rfl ?_; rintro b hb; refine rn F ?_))
  all_goals first
    | exact ⟨rfl, rfl, _, rfl, fun h => absurd h (by decide)⟩
    | exact ⟨rfl, rfl, 0, rfl, fun _ => ⟨hb (by assumption), by omega, by omega⟩⟩
    | skip
theorem rhas_w (n : Int) : VCalls prog 168 [.pv (.sl []), .int .i64 n] [] (Ret (.bool false)) := by
  refine dd Tryz.func168 ?_
  (unfold Tryz.f168; refine rn trivial ?_)
  refine vloopW (fun s : Unit => ⟨18, 0, [(5, .int .i64 0), (1, .int .i64 n), (0, .pv (.sl []))], []⟩) (fun s => 0) () (gc []) ?_
  intro _
  (refine rn F ?_; try with_reducible exact ⟨⟩)
theorem rwithout_w (n : Int) : VCalls prog 195 [.pv (.sl []), .int .i64 n] [] (Ret (.pv (.sl []))) := by
  refine dk Tryz.func195 ?_
  (unfold Tryz.f195; refine rn trivial ?_)
  refine VLoop.wkS ?_
  refine rn trivial ?_
  refine vloopW (fun s : Unit => ⟨27, 0, [(6, .int .i64 0), (5, .pv (.sl [])), (1, .int .i64 n), (0, .pv (.sl []))], []⟩) (fun s => 0) () (gc []) ?_
  intro _
  (refine rn F ?_; try with_reducible exact ⟨⟩)
@[go_sem] def siD (a : List UInt8 × Int) : DV := .tup [.pv (.str a.1), .int .i64 a.2]
theorem rdread_w (v : Dv) (hl : v.ps.length ≤ 100000) (n : Int) : VCalls prog 123 [.agg v.d, .int .i64 n] [] (RetS siD fun a => a.2 = 0 → a.1.length = 256) := by
  refine dd Tryz.func123 ?_
  have c1 := rusable_w v hl n
  have c2 := rhas_w n
  (unfold Tryz.f123; refine rn trivial ?_)
  have hg := fun h : n.toNat < v.ps.length => fzS_at v.ps n.toNat h
  refine vc_S c1 rfl ?_
  rintro e he
  by_cases h0 : e = 0
  · obtain ⟨q1, q2, q3⟩ := he h0
    subst h0
    have F := @hg
    refine rn F ?_
    repeat' (first
      | with_reducible exact ⟨⟩
      | refine vp F (c2) ?_)
    exact ⟨rfl, rfl, (v.ps.getD n.toNat [], 0), rfl, fun _ => q1.2.2 _ (by omega)⟩
  · skip
    have F := @h0
    refine rn F ?_
    exact ⟨rfl, rfl, ([], e), rfl, fun h => absurd h h0⟩
section
attribute [local go_sem] iteLe
theorem vc_own1 {P : Program} {g : FuncId} {args args0 : List DV} {hp : Heap} {K : DV → Heap → Prop} {r0 r2 : DV} {B B' : Blk} (k : Nat) (c : VCalls P g args0 [B] fun r h' => r = r0 ∧ h' = [B']) (hk : hp[k]? = some B) (hB : B.live = true ∧ DV.nums.go (fun _ => false) B.cells = true) (hB' : DV.nums.go (fun _ => false) B'.cells = true)
    (ha0 : args0 = args.map (DV.ren fun j => [k].idxOf j)) (ha : DV.nums.go [k].contains args = true) (hr : r0.ren (back [k] hp.length) = r2) (h : K r2 (hp.set k B')) : VCalls P g args hp K := by
  subst hr
  have hlt : k < hp.length := (List.getElem?_eq_some_iff.1 hk).1
  have hg : hp.getD k default = B := by rw [List.getD_eq_getElem?_getD, hk]; rfl
  have hpl : plainL hp [k] := ⟨⟨hlt, by rw [hg]; exact hB.2⟩, trivial⟩
  refine (VCalls.frame [k] (by simp) (by rw [lentTo_plain hpl]; simp only [List.map_cons, List.map_nil, hg]) (lentOk_plain hpl) c ha0 ha).mono ?_
  rintro r h2 ⟨r1, h', ⟨rfl, rfl⟩, -, rfl, rfl⟩
  rw [behind_one hlt, List.map_nil, List.append_nil, renB_plain hB']
  exact h
def dvO (k n : Nat) (wr : Int) (dead : Bool) : DV := .agg [.own k 1 0 n, .int .i64 wr, .pv (.sl []), .bool dead, .pv (.sl [])]
theorem setS_in (l : List (List UInt8)) (i : Nat) (s : List UInt8) (h : i < l.length) : (cells encS l).set i (.pv (.str s)) = cells encS (l.set i s) := by
  rw [cellsS, cellsS, List.map_set]
theorem rplace_k (ps : List (List UInt8)) (wr : Int) (dead : Bool) (i : Nat) (hi : i < ps.length) (h6 : (ps.getD i []).length = 256) (s : List UInt8) (n : Nat) (hn : n ≤ 256) (hs : s.length = 256) :
    VCalls prog 147 [dvO 0 ps.length wr dead, .int .i64 i, .pv (.str s), .int .i64 n] [⟨9, true, cells encS ps⟩] (fun r h' => r = dvO 0 ps.length wr dead ∧ h' = [⟨9, true, cells encS (ps.set i (s.take n ++ (ps.getD i []).drop n))⟩]) := by
  unfold dvO
  refine dd Tryz.func147 ?_
  have c1 := rwithout_w i
  have hg := cellsS_get ps i hi
  have hse := fun s => setS_in ps i s hi
  generalize ps.getD i [] = q at *
  (unfold Tryz.f147; refine rn trivial ?_)
  have hlt : (i < ps.length) = True := eq_true hi
  have F := (And.intro @hg (And.intro @hse @hlt))
  refine rn F ?_
  repeat' (first
    | with_reducible exact ⟨⟩
    | refine vp F (c1) ?_
    | (refine vspine (id := 1) [0, 1, 2, 3, 4, 5, 6, 7, 8, 9, 10, 11, 12, 13, 14] [⟨[], [], 15, [], []⟩] (by kernel_rfl) (by kernel_rfl) ?_; refine rn F ?_))
  all_goals exact ⟨rfl, rfl⟩
def cpD (o : Nat) (v : Dv) : List DV := [.own (o + 2) 1 0 v.ps.length, .int .i64 v.wr, .own (o + 3) 1 0 0, .bool v.dead, .own (o + 4) 6 0 0]
def copyH (v : Dv) (o : Nat) : Heap := [⟨109, true, cpD o v⟩, ⟨109, true, cpD o v⟩, ⟨9, true, cells encS v.ps⟩, ⟨3, true, []⟩, ⟨244, true, []⟩]
theorem rcopy_k (v : Dv) (hl : v.ps.length ≤ 100000) : VCalls prog 146 [.agg v.d] [] fun r h' => r = .agg (cpD 0 v) ∧ h' = copyH v 0 := by
  refine vcalls_keep (fn := Tryz.f146) Tryz.func146 rfl (by kernel_rfl) (by simp [Tryz.f146]) ?_
  unfold cpD copyH
  have hb : v.ps.length * 16 ≤ 140737488355328 := by omega
  (unfold Tryz.f146; refine rn trivial ?_)
  have F := @hb
  (refine rn F ?_; try with_reducible exact ⟨⟩)
  all_goals first | rfl | exact ⟨rfl, rfl⟩
theorem vc_copy {hp : Heap} {K : DV → Heap → Prop} (v : Dv) (hl : v.ps.length ≤ 100000) (h : K (.agg (cpD hp.length v)) (hp ++ copyH v hp.length)) : VCalls prog 146 [.agg v.d] hp K := by
  refine (VCalls.frame [] List.nodup_nil rfl rfl (rcopy_k v hl) rfl rfl).mono ?_
  rintro r h2 ⟨r0, h', ⟨rfl, rfl⟩, -, rfl, rfl⟩
  rw [behind_nil]
  have e3 : renB (back [] hp.length) ⟨9, true, cells encS v.ps⟩ = ⟨9, true, cells encS v.ps⟩ := renB_plain (cells_nums _ _ _)
  simp only [copyH, List.map_cons, List.map_nil, e3] at h ⊢
  exact h
@[go_sem] def dvD (a : Dv × Int) : DV := .tup [.agg a.1.d, .int .i64 a.2]
def dvQ (a : Dv × Int) : Prop := a.1.ps.length ≤ 64
theorem rtear_w (v : Dv) (hl : v.ps.length ≤ 100000) (pg : Int) (s : List UInt8) (hs0 : s.length ≤ 1000000) (n : Int) : VCalls prog 117 [.agg v.d, .int .i64 pg, .pv (.str s), .int .i64 n] [] (RetS dvD dvQ) := by
  refine dk Tryz.func117 ?_
  have c1 := rusable_w v hl pg
  (unfold Tryz.f117; refine rn trivial ?_)
  refine vc_S c1 rfl ?_
  rintro e he
  by_cases h0 : e = 0
  rotate_left
  · skip
    have F := @h0
    refine rn F ?_
    exact ⟨rfl, rfl, (Dv0, e), rfl, Nat.zero_le _⟩
  obtain ⟨q1, q2, q3⟩ := he h0
  subst h0
  have F := trivial
  refine rn F ?_
  repeat' (first
    | with_reducible exact ⟨⟩
    | (refine sG F ?_ ?_ <;> intro hZ)
    | (refine sB F ?_ ?_ <;> intro hZ))
  all_goals first
    | exact ⟨rfl, rfl, (Dv0, _), rfl, Nat.zero_le _⟩
    | skip
  obtain ⟨i, rfl⟩ : ∃ i : Nat, pg = i := ⟨pg.toNat, by omega⟩
  obtain ⟨m, rfl⟩ : ∃ m : Nat, n = m := ⟨n.toNat, by omega⟩
  have hi : i < v.ps.length := by omega
  refine vc_copy v hl ?_
  unfold copyH cpD
  refine rn trivial ?_
  refine VCalls.neA ?_
  have hpos : 0 < v.ps.length := by omega
  simp only [List.map_cons, List.map_nil, DV.ne, ne1_pos hpos, ne1_zero, ne1_pv]
  refine vc_own1 4 (rplace_k v.ps v.wr v.dead i hi (q1.2.2 i hi) s m (by omega) (by omega)) rfl ⟨rfl, cells_nums _ _ _⟩ (cells_nums _ _ _) rfl rfl (r2 := dvO 4 v.ps.length v.wr v.dead) rfl ?_
  unfold dvO
  have hle : ∀ x, (v.ps.set i x).length = v.ps.length := fun x => List.length_set
  have F := @hle
  refine rn F ?_
  exact ⟨rfl, rfl, (⟨v.ps.set i (s.take m ++ (v.ps.getD i []).drop m), v.wr, v.dead⟩, 0), rfl, by unfold dvQ; dsimp only; rw [hle]; exact q1.1.2⟩
theorem rblanks_w (n : Int) (hn : n ≤ 64) : VCalls prog 78 [.int .i64 n] [] (RetS (fun l : List (List UInt8) => .pv (.sl (fz encS l))) fun l => l.length ≤ 64) := by
  refine dk Tryz.func78 ?_
  (unfold Tryz.f78; refine rn trivial ?_)
  refine VLoop.nilOwn 3 9 1 rfl ?_
  refine rn trivial ?_
  refine vloopW (fun s : {s : Nat × List (List UInt8) // s.1 ≤ 64 ∧ s.2.length = s.1} => ⟨16, 0, [(4, .int .i64 s.1.1), (3, .own 0 1 0 s.1.2.length), (0, .int .i64 n)], [⟨9, true, cells encS s.1.2⟩]⟩) (fun s => 64 - s.1.1) ⟨(0, []), by simp⟩ (gc [0]) ?_
  rintro ⟨⟨i, out⟩, hi, ho⟩
  dsimp only at hi ho ⊢
  have hb : (out.length + 1) * 16 ≤ 140737488355328 := by omega
  have hm : (((1 : Nat) : Int) * 256 ≤ 281474976710656) = True := eq_true (by decide)
  have hcw := fun (hp : Heap) (k o n : Nat) => conv_bts (hp := hp) (k := k) (off := o) (len := n) btsC
  have hcv : ∀ hp : Heap, vcso hp 0 256 (some (cells encU (List.replicate 256 0))) = some (.pv (.str (List.replicate 256 0)), hp) := fun hp => vcso_cells (by simp)
  have F := (And.intro @hb (And.intro @hm (And.intro @hcw @hcv)))
  refine rn F ?_
  repeat' (first
    | with_reducible exact ⟨⟩
    | (refine sB F ?_ ?_ <;> intro hZ))
  all_goals first
    | exact ⟨⟨(i + 1, out ++ [List.replicate 256 0]), by dsimp only; omega, by simp; omega⟩, by dsimp only; omega, by dsimp only; rw [List.length_append]; exact (gc [3])⟩
    | exact ⟨rfl, rfl, out, rfl, by omega⟩
    | skip
end
section
attribute [local go_sem] iteLe
theorem rdwrite_w (v : Dv) (hl : v.ps.length ≤ 100000) (pg : Int) (s : List UInt8) (hs0 : s.length ≤ 1000000) : VCalls prog 112 [.agg v.d, .int .i64 pg, .pv (.str s)] [] (RetS dvD dvQ) := by
  refine dk Tryz.func112 ?_
  have c1 := rusable_w v hl pg
  (unfold Tryz.f112; refine rn trivial ?_)
  refine vc_S c1 rfl ?_
  rintro e he
  by_cases h0 : e = 0
  rotate_left
  · skip
    have F := @h0
    refine rn F ?_
    exact ⟨rfl, rfl, (Dv0, e), rfl, Nat.zero_le _⟩
  obtain ⟨q1, q2, q3⟩ := he h0
  subst h0
  have F := trivial
  refine rn F ?_
  repeat' (first
    | with_reducible exact ⟨⟩
    | (refine sB F ?_ ?_ <;> intro hZ))
  all_goals first
    | exact ⟨rfl, rfl, (Dv0, _), rfl, Nat.zero_le _⟩
    | skip
  obtain ⟨i, rfl⟩ : ∃ i : Nat, pg = i := ⟨pg.toNat, by omega⟩
  have hi : i < v.ps.length := by omega
  have hwr := q1.2.1
  refine vc_copy v hl ?_
  unfold copyH cpD
  have F := trivial
  refine rn F ?_
  refine vloopW (fun _ : Unit => ⟨166, 0, [(11, .int .i64 0), (10, .pv (.slc [])), (9, .ptr 4 0), (6, .ptr 1 0), (3, .ptr 0 0), (2, .pv (.str s)), (1, .int .i64 i)], [⟨109, true, v.d⟩, ⟨109, true, [.pv (.slc []), .int .i64 0, .pv (.slc []), .bool false, .pv (.slc [])]⟩, ⟨9, true, cells encS v.ps⟩, ⟨3, true, []⟩, ⟨109, true, [.own 2 1 0 v.ps.length, .int .i64 (v.wr + 1), .own 3 1 0 0, .bool v.dead, .pv (.slc [])]⟩]⟩) (fun _ => 0) () (gc [0, 1, 4, 5, 7]) ?_
  intro _
  have F := trivial
  refine rn F ?_
  refine vloopW (fun _ : Unit => ⟨166, 0, [(13, .int .i64 0), (12, .bool false), (10, .pv (.slc [])), (9, .ptr 3 0), (6, .ptr 0 0), (2, .pv (.str s)), (1, .int .i64 i)], [⟨109, true, [.pv (.slc []), .int .i64 0, .pv (.slc []), .bool false, .pv (.slc [])]⟩, ⟨9, true, cells encS v.ps⟩, ⟨3, true, []⟩, ⟨109, true, [.own 1 1 0 v.ps.length, .int .i64 (v.wr + 1), .own 2 1 0 0, .bool v.dead, .pv (.slc [])]⟩]⟩) (fun _ => 0) () (gc [1, 2, 3, 4]) ?_
  intro _
  have F := trivial
  refine rn F ?_
  refine VCalls.wkA (VCalls.neA ?_)
  have hpos : 0 < v.ps.length := by omega
  refine rn trivial ?_
  simp only [List.map_cons, List.map_nil, DV.ne, ne1_pos hpos, ne1_zero, ne1_pv, DV.wk, DV.wk.go, PV.wk]
  refine vc_own1 1 (rplace_k v.ps (v.wr + 1) v.dead i hi (q1.2.2 i hi) s 256 (by omega) (by omega)) rfl ⟨rfl, cells_nums _ _ _⟩ (cells_nums _ _ _) rfl rfl (r2 := dvO 1 v.ps.length (v.wr + 1) v.dead) rfl ?_
  unfold dvO
  have hle : ∀ x, (v.ps.set i x).length = v.ps.length := fun x => List.length_set
  have F := @hle
  refine rn F ?_
  have hlL := hle (s.take 256 ++ (v.ps.getD i []).drop 256)
  generalize v.ps.set i (s.take 256 ++ (v.ps.getD i []).drop 256) = L at *
  refine vloopW (fun _ : Unit => ⟨166, 0, [(14, .int .i64 0), (10, .pv (.slc [])), (9, .ptr 2 0), (6, .ptr 0 0)], [⟨109, true, [.pv (.slc []), .int .i64 0, .pv (.slc []), .bool false, .pv (.slc [])]⟩, ⟨9, true, cells encS L⟩, ⟨109, true, [.own 1 1 0 v.ps.length, .int .i64 (v.wr + 1), .pv (.sl []), .bool v.dead, .pv (.sl [])]⟩]⟩) (fun _ => 0) () (gc [0, 1, 3]) ?_
  intro _
  have F := @hlL
  refine rn F ?_
  exact ⟨rfl, rfl, (⟨L, v.wr + 1, v.dead⟩, 0), rfl, by unfold dvQ; have := q1.1.2; dsimp only; omega⟩
end
section
attribute [local go_sem] iteLe
theorem rzeros_v (n : Nat) (hn : n ≤ 1000) : VCalls prog 143 [.int .i64 n] [] (Ret (.pv (.str (List.replicate n 0)))) := by
  refine dd Tryz.func143 ?_
  have hm : (((1 : Nat) : Int) * (n : Int) ≤ 281474976710656) = True := eq_true (by omega)
  have hm2 : ((n : Int) * ((1 : Nat) : Int) ≤ 281474976710656) = True := eq_true (by omega)
  have hcw := fun (hp : Heap) (k o n : Nat) => conv_bts (hp := hp) (k := k) (off := o) (len := n) btsC
  have hcv : ∀ hp : Heap, vcso hp 0 n (some (cells encU (List.replicate n 0))) = some (.pv (.str (List.replicate n 0)), hp) := fun hp => vcso_cells (by simp)
  have hm3 : ((0 : Int) ≤ (n : Int) ∧ (n : Int) ≤ (n : Int) ∧ (n : Int) ≤ 9223372036854775807) = True := eq_true ⟨by omega, by omega, by omega⟩
  (unfold Tryz.f143; refine rn (And.intro @hm (And.intro @hm2 (And.intro @hm3 (And.intro @hcw @hcv)))) ?_; try with_reducible exact ⟨⟩)
theorem rblank_v : VCalls prog 241 [] [] (Ret (.pv (.str (List.replicate 256 0)))) := by
  refine dd Tryz.func241 ?_
  have c1 := rzeros_v 256 (by omega)
  (unfold Tryz.f241; refine rn trivial ?_)
  refine rn F ?_
  repeat' (first
    | with_reducible exact ⟨⟩
    | refine vp F (c1) ?_)
theorem cel_at1 (x : Pg) (i : Nat) (h : i < 16) : x.d[2 + i * 2 + 1]? = some (.pv (.str (x.cel i).data)) := by
  have : i = 0 ∨ i = 1 ∨ i = 2 ∨ i = 3 ∨ i = 4 ∨ i = 5 ∨ i = 6 ∨ i = 7 ∨ i = 8 ∨ i = 9 ∨ i = 10 ∨ i = 11 ∨ i = 12 ∨ i = 13 ∨ i = 14 ∨ i = 15 := by omega
  rcases this with h | h | h | h | h | h | h | h | h | h | h | h | h | h | h | h <;> subst h <;> rfl
theorem okB_cel {p : Pg} (h : checkS p = 0) (i : Nat) (hi : i < 16) : (p.cel i).data.length ≤ 12 := by
  have := checkS_ok h
  unfold Pg.okB Pg.celB at this
  simp only [Bool.and_eq_true, List.all_eq_true, List.mem_range] at this
  have := this.2 i hi
  unfold Pg.celC Ce.okB at this
  simp only [Bool.and_eq_true, decide_eq_true_eq] at this
  exact this.1.1
theorem rpenc_w (p : Pg) : VCalls prog 111 [.agg p.d] [] (RetS siD fun a => a.1.length ≤ 256) := by
  refine dd Tryz.func111 ?_
  have c1 := rcheck_v p
  have hcel := okB_cel (p := p)
  by_cases hk : checkS p = 0
  rotate_left
  · generalize checkS p = k at *
    (unfold Tryz.f111; refine rn trivial ?_)
    have F := @hk
    refine rn F ?_
    repeat' (first
      | with_reducible exact ⟨⟩
      | refine vp F (c1) ?_)
    exact ⟨rfl, rfl, ([], k), rfl, Nat.zero_le _⟩
  rw [hk] at c1
  have hcel := hcel hk
  have c2 := rput_v [] (by simp) p.lsn 8 (by omega) (by omega)
  have c3 := rput_v (putL [] p.lsn 8) (by rw [putL_len]; simp) p.id 4 (by omega) (by omega)
  have hl0 : (putL (putL [] p.lsn 8) p.id 4).length = 12 := by rw [putL_len, putL_len]; rfl
  (unfold Tryz.f111; refine rn trivial ?_)
  have F := trivial
  refine rn F ?_
  repeat' (first
    | with_reducible exact ⟨⟩
    | refine vp F (c1) ?_
    | refine vp F (c2) ?_
    | refine vp F (c3) ?_)
  generalize putL (putL [] p.lsn 8) p.id 4 = s0 at *
  refine vloopW (fun s : {s : Nat × List UInt8 // s.1 ≤ 16 ∧ s.2.length = 12 + 13 * s.1} => ⟨69, 0, [(6, .int .i64 s.1.1), (5, .pv (.str s.1.2)), (1, .ptr 0 0)], [⟨168, true, p.d⟩]⟩) (fun s => 16 - s.1.1) ⟨(0, s0), by simp; exact hl0⟩ (gc [0]) ?_
  rintro ⟨⟨i, t⟩, hi, ht⟩
  dsimp only at hi ht ⊢
  have hg := fun h : i < 16 => cel_at p i h
  have hg0 := fun h : i < 16 => cel_at0 p i h
  have hg1 := fun h : i < 16 => cel_at1 p i h
  have hdl := fun h : i < 16 => hcel i h
  generalize p.cel i = c at *
  have d1 := fun n => rput_v t (by omega) n 1 (by omega) (by omega)
  have hpl := fun n => putL_len t n 1
  by_cases hi16 : i < 16
  · have hdl := hdl hi16
    have d2 := rzeros_v (12 - c.data.length) (by omega)
    rw [show ((12 - c.data.length : Nat) : Int) = 12 - (c.data.length : Int) by omega] at d2
    have hcd : (c.data ++ List.replicate (12 - c.data.length) (0 : UInt8)).length = 12 := by rw [List.length_append, List.length_replicate]; omega
    have hadd := fun n => str_add (a := putL t n 1) (b := c.data ++ List.replicate (12 - c.data.length) (0 : UInt8)) (by rw [hpl, hcd]; omega)
    have F := (And.intro @hg (And.intro @hg0 (And.intro @hg1 @hadd)))
    refine rn F ?_
    repeat' (first
      | with_reducible exact ⟨⟩
      | (refine sB F ?_ ?_ <;> intro hZ)
      | refine vp F (d1 _) ?_
      | refine vp F (d2) ?_
      | (refine vspine (id := 13) [0, 1, 2, 3, 4, 5, 6, 7, 8, 9, 10, 11, 12] [⟨[], [], 13, [0, 1, 2, 3, 4, 5, 6, 7, 8, 9, 10, 11], [14, 15]⟩, ⟨[], [], 16, [], []⟩] (by kernel_rfl) (by kernel_rfl) ?_; refine rn F ?_))
    · exact ⟨⟨(i + 1, putL t c.data.length 1 ++ (c.data ++ List.replicate (12 - c.data.length) 0)), by dsimp only; omega, by dsimp only; rw [List.length_append, List.length_append, List.length_replicate, hpl]; omega⟩, by dsimp only; omega, (gc [0])⟩
    · exact ⟨⟨(i + 1, putL t 255 1 ++ (c.data ++ List.replicate (12 - c.data.length) 0)), by dsimp only; omega, by dsimp only; rw [List.length_append, List.length_append, List.length_replicate, hpl]; omega⟩, by dsimp only; omega, (gc [0])⟩
  · have hi : i = 16 := by omega
    subst hi
    have d2 := rzeros_v (244 - t.length) (by omega)
    rw [show ((244 - t.length : Nat) : Int) = 244 - (t.length : Int) by omega] at d2
    have hle : (t ++ List.replicate (244 - t.length) (0 : UInt8)).length = 244 := by rw [List.length_append, List.length_replicate]; omega
    obtain ⟨u, hu⟩ : ∃ u, t ++ List.replicate (244 - t.length) (0 : UInt8) = u := ⟨_, rfl⟩
    rw [hu] at hle
    have d3 := rsum_v u (by omega)
    have d4 := fun n => rput_v u (by omega) n 4 (by omega) (by omega)
    have hu4 := fun n => putL_len u n 4
    have d5 := fun n m => rput_v (putL u n 4) (by rw [hu4]; omega) m 8 (by omega) (by omega)
    have F := @hu
    refine rn F ?_
    repeat' (first
      | with_reducible exact ⟨⟩
      | refine vp F (d2) ?_
      | refine vp F (d3) ?_
      | refine vp F (d4 _) ?_
      | refine vp F (d5 _ _) ?_)
    exact ⟨rfl, rfl, (putL (putL u _ 4) _ 8, 0), rfl, by dsimp only; rw [putL_len, hu4]; omega⟩
end
section
attribute [local go_sem] iteLe
@[go_sem] def piD (a : Pg × Int) : DV := .tup [.agg a.1.d, .int .i64 a.2]
theorem rpdnew_v (n : Int) : VCalls prog 217 [.int .i64 n] [] (Ret (.agg (Pg.d ⟨n, 0, fun _ => Ce0⟩))) := by
  refine dd Tryz.func217 ?_
  (unfold Tryz.f217; refine rn trivial ?_)
  rfl
theorem rpdec_w (s : List UInt8) (hs : s.length ≤ 1000000) : VCalls prog 216 [.pv (.str s)] [] (RetS piD fun _ => True) := by
  refine dd Tryz.func216 ?_
  have c1 := rblank_v
  (unfold Tryz.f216; refine rn trivial ?_)
  by_cases hl : s.length = 256
  rotate_left
  · have hl' : ¬ (s.length : Int) = 256 := by omega
    have F := @hl'
    refine rn F ?_
    exact ⟨rfl, rfl, (Pg0, 2), rfl, trivial⟩
  have c2 := fun (a k : Nat) (h : 1 ≤ k ∧ k ≤ 8) (hh : a + k ≤ s.length) => rget_v s (by omega) a k h hh
  have g1 := c2 244 4 (by omega) (by omega)
  have g2 := c2 0 8 (by omega) (by omega)
  have g3 := c2 8 4 (by omega) (by omega)
  have c3 := fun u h => rsum_v u h
  have c4 := rpenc_w
  have F := @hl
  refine rn F ?_
  repeat' (first
    | with_reducible exact ⟨⟩
    | (refine sB F ?_ ?_ <;> intro hZ)
    | refine vp F (c1) ?_
    | refine vp F (g1) ?_
    | refine vp F (g2) ?_
    | refine vp F (g3) ?_
    | (refine vp F (c3 _ (by simp; omega)) ?_)
    | (refine vspine (id := 5) [0, 1, 2, 3, 4] [⟨[], [], 5, [0, 1, 2, 3], []⟩] (by kernel_rfl) (by kernel_rfl) ?_; refine rn F ?_))
  all_goals first
    | exact ⟨rfl, rfl, (Pg0, _), rfl, trivial⟩
    | skip
  refine vloopW (fun r : {r : Nat × Pg // r.1 ≤ 16} => ⟨95, 0, [(7, .int .i64 r.1.1), (6, .ptr 1 0), (2, .ptr 0 0), (0, .pv (.str s))], [⟨168, true, Pg0.d⟩, ⟨168, true, r.1.2.d⟩]⟩) (fun r => 16 - r.1.1) ⟨(0, ⟨IntKind.i64.wrap (accX s 8 4), IntKind.i64.wrap (accX s 0 8), fun _ => Ce0⟩), by simp⟩ (gc [0, 1]) ?_
  rintro ⟨⟨i, p⟩, hi⟩
  dsimp only at hi ⊢
  have hgs : i < 16 → s[12 + i * 13]? = some (s.getD (12 + i * 13) 0) := fun h => by rw [List.getD_eq_getElem?_getD, List.getElem?_eq_getElem (by omega)]; rfl
  have hix : (12 + (i : Int) * 13).toNat = 12 + i * 13 := by omega
  have hce := fun (h : i < 16) b d => cel_setU p i h ⟨b, d⟩
  generalize hq : s.getD (12 + i * 13) 0 = q at *
  have hqb := q.toNat_lt
  have c5 := c4 p
  have F := (And.intro @hgs (And.intro @hix (And.intro @hce @hl)))
  refine rn F ?_
  repeat' (first
    | with_reducible exact ⟨⟩
    | (refine sG F ?_ ?_ <;> intro hZ)
    | (refine sB F ?_ ?_ <;> intro hZ)
    | (refine vc_S (c5) rfl ?_; rintro ⟨t, e⟩ -; refine rn F ?_))
  all_goals first
    | exact ⟨rfl, rfl, (Pg0, _), rfl, trivial⟩
    | exact ⟨rfl, rfl, (p, 0), rfl, trivial⟩
    | exact ⟨⟨(i + 1, p), by dsimp only; omega⟩, by dsimp only; omega, (gc [0, 1])⟩
    | exact ⟨⟨(i + 1, p.setc i ⟨true, List.drop (12 + (i : Int) * 13 + 1).toNat (List.take (12 + (i : Int) * 13 + 1 + q.toNat).toNat s)⟩), by dsimp only; omega⟩, by dsimp only; omega, (gc [0, 1])⟩
    | skip
theorem rident_w (s : List UInt8) (hs : s.length ≤ 1000000) (n : Int) : VCalls prog 169 [.pv (.str s), .int .i64 n] [] (RetS piD fun a => a.2 = 0 → a.1.id = n) := by
  refine dd Tryz.func169 ?_
  have c1 := rpdec_w s hs
  have c2 := rpdnew_v n
  (unfold Tryz.f169; refine rn trivial ?_)
  refine rn F ?_
  repeat' (first
    | with_reducible exact ⟨⟩
    | (refine sG F ?_ ?_ <;> intro hZ)
    | (refine sB F ?_ ?_ <;> intro hZ)
    | (refine vc_S (c1) rfl ?_; rintro ⟨p, e⟩ -; refine rn F ?_)
    | refine vp F (c2) ?_)
  all_goals first
    | exact ⟨rfl, rfl, (Pg0, _), rfl, fun h => by simp at h⟩
    | exact ⟨rfl, rfl, (⟨n, 0, fun _ => Ce0⟩, 0), rfl, fun _ => rfl⟩
    | exact ⟨rfl, rfl, (p, e), rfl, fun h => by dsimp only at h ⊢; omega⟩
    | skip
theorem rjudge_w (l : List Rw) (hl : l.length ≤ 64) (n hd : Int) (s : List UInt8) (hs : s.length ≤ 1000000) : VCalls prog 125 [.agg [.pv (.sl (fz encR l))], .int .i64 n, .int .i64 hd, .pv (.str s)] [] (RetS piD fun a => a.2 = 0 → a.1.id = n) := by
  refine dd Tryz.func125 ?_
  have c1 := rixvalid_v l (by omega)
  have c2 := rident_w s hs n
  have hg := fun h : n.toNat < l.length => fzR_at l n.toNat h
  generalize ixB l = b at *
  (unfold Tryz.f125; refine rn trivial ?_)
  have F := @hg
  refine rn F ?_
  repeat' (first
    | with_reducible exact ⟨⟩
    | (refine sG F ?_ ?_ <;> intro hZ)
    | (refine sB F ?_ ?_ <;> intro hZ)
    | refine vp F (c1) ?_
    | (refine vc_S (c2) rfl ?_; rintro ⟨p, e⟩ hp; refine rn F ?_)
    | (refine vspine (id := 8) [0, 1, 2, 3, 4, 5, 6, 7, 8, 9, 10, 11, 12, 13, 14] [⟨[], [], 15, [0, 1, 2, 3, 5, 6, 7, 8, 9, 10, 11, 12, 13], []⟩] (by kernel_rfl) (by kernel_rfl) ?_; refine rn F ?_)
    | (refine vspine (id := 10) [0, 1, 2, 3, 4, 5, 6, 7, 8] [⟨[], [], 9, [0, 1, 2, 3, 4, 5, 6, 7], []⟩] (by kernel_rfl) (by kernel_rfl) ?_; refine rn F ?_))
  all_goals first
    | exact ⟨rfl, rfl, (Pg0, e), rfl, fun h => absurd h (by assumption)⟩
    | (focus (refine ⟨rfl, rfl, (Pg0, _), rfl, fun h => ?_⟩; simp at h; done))
    | exact ⟨rfl, rfl, (p, 0), rfl, fun _ => hp (by dsimp only; omega)⟩
    | skip
end
section
attribute [local go_sem] iteLe
theorem consE (e : E) (l : List E) : (.pv (.lit (.int .i64 e.lsn)) :: .pv (.lit (.int .i64 e.kind)) :: .pv (.lit (.int .i64 e.tx)) :: .pv (.lit (.int .i64 e.ptx)) :: .pv (.lit (.int .i64 e.ppg)) :: .pv (.lit (.int .i64 e.ref)) :: .pv (.lit (.int .i64 e.c.pg)) :: .pv (.lit (.int .i64 e.c.sl)) :: .pv (.lit (.bool e.c.b.set)) :: .pv (.str e.c.b.data) :: .pv (.lit (.bool e.c.a.set)) :: .pv (.str e.c.a.data) :: .pv (.str e.blob) :: cells encE l : List DV) = cells encE (e :: l) := rfl
theorem rfront_v (e : E) (l : List E) (hl : l.length ≤ 100000) : VCalls prog 245 [.agg e.d, .pv (.sl (fz encE l))] [] (Ret (.pv (.sl (fz encE (e :: l))))) := by
  refine dk Tryz.func245 ?_
  have hc := consE e l
  have hb : (1 + l.length) * 128 ≤ 140737488355328 := by omega
  have hlen : (e :: l).length = 1 + l.length := by simp; omega
  (unfold Tryz.f245; refine rn (And.intro @hc (And.intro @hb @hlen)) ?_; try with_reducible exact ⟨⟩)
@[go_sem] def esD (a : List E × Int) : DV := .tup [.pv (.sl (fz encE a.1)), .int .i64 a.2]
theorem getE_ok {x : Lg} {n : Int} (h : (getE x n).2 = 0) : lgB x = true ∧ x.f ≤ n ∧ n ≤ x.end_ ∧ (getE x n).1.lsn = n ∧ (getE x n).1.okB = true := by
  unfold getE at h ⊢
  split at h
  · simp at h
  rename_i q1
  split at h
  · simp at h
  rename_i q2
  rw [if_neg q1, if_neg q2]
  have hv : lgB x = true := by simpa using q1
  have hv2 := hv
  unfold lgB at hv2
  simp only [Bool.and_eq_true, List.all_eq_true, List.mem_range] at hv2
  have hd := hv2.1
  simp only [decide_eq_true_eq, Lg.hd] at hd
  have := hv2.2 (n - x.f).toNat (by simp only [Lg.end_] at q2; omega)
  unfold lgC at this
  simp only [Bool.and_eq_true, decide_eq_true_eq] at this
  dsimp only
  exact ⟨hv, by omega, by omega, by omega, this.2⟩
theorem okB_ppg {e : E} (h : e.okB = true) : 0 ≤ e.ppg ∧ e.ppg < e.lsn := by
  unfold E.okB bef at h
  simp only [Bool.and_eq_true, decide_eq_true_eq] at h
  omega
structure Ch7 (x : Lg) where
  at_ : Int
  out : List E
  ok : out = [] ∨ at_ + out.length ≤ x.f + x.es.length
  nn : 0 ≤ at_
  le : out.length ≤ 4097
theorem rchain_w (x : Lg) (hx : x.es.length ≤ 4096) (pg last above : Int) : VCalls prog 242 [.agg x.c, .int .i64 pg, .int .i64 last, .int .i64 above] [] (RetS esD fun a => a.1.length ≤ 4097) := by
  refine dk Tryz.func242 ?_
  have c1 := rlvalid_v x (by omega)
  have c2 := rget_e x (by omega)
  have hok := @getE_ok x
  (unfold Tryz.f242; refine rn trivial ?_)
  cases hv : lgB x
  · rw [hv] at c1
    refine rn F ?_
    repeat' (first
      | with_reducible exact ⟨⟩
      | refine vp F (c1) ?_)
    exact ⟨rfl, rfl, ([], 26), rfl, Nat.zero_le _⟩
  rw [hv] at c1
  have hd := lgB_hd hv
  simp only [Lg.hd] at hd
  refine rn F ?_
  repeat' (first
    | with_reducible exact ⟨⟩
    | (refine sG F ?_ ?_ <;> intro hZ)
    | (refine sB F ?_ ?_ <;> intro hZ)
    | refine vp F (c1) ?_)
  all_goals first
    | exact ⟨rfl, rfl, ([], 1), rfl, Nat.zero_le _⟩
    | skip
  refine VLoop.wkS ?_
  refine rn trivial ?_
  refine vloopW (fun s : Ch7 x => ⟨62, 0, [(11, .int .i64 s.at_), (10, .pv (.sl (fz encE s.out))), (4, .ptr 0 0), (3, .int .i64 above), (1, .int .i64 pg)], [⟨28, true, x.c⟩]⟩) (fun s => s.at_.toNat) ⟨last, [], .inl rfl, by omega, Nat.zero_le _⟩ (gc [0]) ?_
  rintro ⟨at_, out, ok, nn, le⟩
  dsimp only
  have c3 := c2 at_
  have hok := hok (n := at_)
  generalize getE x at_ = g at *
  have c4 := rchanges_v g.1
  have c5 := rfront_v g.1 out (by omega)
  refine rn F ?_
  repeat' (first
    | with_reducible exact ⟨⟩
    | (refine sG F ?_ ?_ <;> intro hZ)
    | (refine sB F ?_ ?_ <;> intro hZ)
    | refine vp F (c3) ?_
    | refine vp F (c4) ?_
    | refine vp F (c5) ?_
    | (refine vspine (id := 13) [0, 1, 3, 4] [⟨[], [], 2, [3, 4], []⟩, ⟨[], [], 5, [3, 4], []⟩, ⟨[], [], 6, [], []⟩] (by kernel_rfl) (by kernel_rfl) ?_; refine rn F ?_))
  all_goals first
    | exact ⟨rfl, rfl, ([], _), rfl, Nat.zero_le _⟩
    | exact ⟨rfl, rfl, (out, 0), rfl, le⟩
    | skip
  obtain ⟨k1, k2, k3, k4, k5⟩ := hok (by omega)
  have hp := okB_ppg k5
  simp only [Lg.end_] at k3
  have ho : at_ + out.length ≤ x.f + x.es.length := by
    rcases ok with rfl | ok
    · simp; omega
    · exact ok
  exact ⟨⟨g.1.ppg, g.1 :: out, .inr (by simp only [List.length_cons]; omega), hp.1, by simp only [List.length_cons]; omega⟩, by dsimp only; omega, (gc [0])⟩
theorem rinv_v (c : Ch) : VCalls prog 174 [.agg c.d] [] (Ret (.agg (Ch.d ⟨c.pg, c.sl, c.a, c.b⟩))) := by
  refine dd Tryz.func174 ?_
  (unfold Tryz.f174; refine rn trivial ?_; try with_reducible exact ⟨⟩)
theorem okB_chs {c : Ch} (h : c.okB = true) : 0 ≤ c.sl ∧ c.sl < 16 := by
  unfold Ch.okB at h
  simp only [Bool.and_eq_true, decide_eq_true_eq] at h
  omega
theorem allEqC (a c : Bool) (b d : List UInt8) : allEq [.pv (.lit (.bool a)), .pv (.str b)] [.pv (.lit (.bool c)), .pv (.str d)] [(0, 0), (1, 2)] = some (a == c && b == d) := by simp [allEq, leafEq]
theorem rpapply_w (p : Pg) (c : Ch) : VCalls prog 175 [.agg p.d, .agg c.d] [] (RetS piD fun a => a.2 = 0 → a.1.id = p.id) := by
  refine dd Tryz.func175 ?_
  have c1 := rchok_v c
  have hs := okB_chs (c := c)
  (unfold Tryz.f175; refine rn trivial ?_)
  cases hv : c.okB
  · rw [hv] at c1
    refine rn F ?_
    repeat' (first
      | with_reducible exact ⟨⟩
      | refine vp F (c1) ?_)
    exact ⟨rfl, rfl, (Pg0, 22), rfl, fun h => by simp at h⟩
  rw [hv] at c1
  obtain ⟨s1, s2⟩ := hs hv
  obtain ⟨i, hi⟩ : ∃ i : Nat, c.sl = i := ⟨c.sl.toNat, by omega⟩
  have hi16 : i < 16 := by omega
  have hg := cel_at p i hi16
  have hce := cel_setU p i hi16 c.a
  have F := (And.intro @hi (And.intro @hg (And.intro @hce @allEqC)))
  refine rn F ?_
  repeat' (first
    | with_reducible exact ⟨⟩
    | (refine sB F ?_ ?_ <;> intro hZ)
    | refine vl F (c1) ?_
    | (refine vspine (id := 5) [0, 1, 2, 3, 4, 5, 6, 7] [⟨[], [], 8, [0, 1, 2, 3, 4, 5, 6], []⟩] (by kernel_rfl) (by kernel_rfl) ?_; refine rn F ?_))
  all_goals first
    | exact ⟨rfl, rfl, (p.setc i c.a, 0), rfl, fun _ => rfl⟩
    | (focus (refine ⟨rfl, rfl, (Pg0, _), rfl, fun h => ?_⟩; simp at h; done))
    | skip
theorem rapply_w (p : Pg) (e : E) : VCalls prog 219 [.agg p.d, .agg e.d] [] (RetS piD fun a => a.2 = 0 → a.1.id = p.id) := by
  refine dd Tryz.func219 ?_
  have c1 := rvalid_v e
  have c2 := rchanges_v e
  have c3 := rcheck_v p
  have c4 := rpapply_w p e.c
  generalize e.okB = b at *
  generalize checkS p = k at *
  (unfold Tryz.f219; refine rn trivial ?_)
  refine rn F ?_
  repeat' (first
    | with_reducible exact ⟨⟩
    | (refine sG F ?_ ?_ <;> intro hZ)
    | (refine sB F ?_ ?_ <;> intro hZ)
    | refine vp F (c1) ?_
    | refine vp F (c2) ?_
    | refine vp F (c3) ?_
    | (refine vc_S (c4) rfl ?_; rintro ⟨q, er⟩ hq; refine rn F ?_))
  all_goals first
    | exact ⟨rfl, rfl, (⟨q.id, e.lsn, q.cel⟩, 0), rfl, fun _ => hq (by dsimp only; omega)⟩
    | exact ⟨rfl, rfl, (Pg0, er), rfl, fun h => absurd h (by assumption)⟩
    | exact ⟨rfl, rfl, (Pg0, k), rfl, fun h => absurd h (by assumption)⟩
    | (focus (refine ⟨rfl, rfl, (Pg0, _), rfl, fun h => ?_⟩; simp at h; done))
    | skip
theorem rlacksR_w (x : Lg) (hx : x.es.length ≤ 4096) (p : Pg) (n : Int) : VCalls prog 218 [.agg x.c, .agg p.d, .int .i64 n] [] (RetS esD fun a => a.1.length ≤ 4097) := by
  refine dk Tryz.func218 ?_
  have c1 := rlvalid_v x (by omega)
  have c2 := rcheck_v p
  have c3 := rchain_w x hx
  generalize lgB x = b at *
  generalize checkS p = k at *
  (unfold Tryz.f218; refine rn trivial ?_)
  refine rn F ?_
  repeat' (first
    | with_reducible exact ⟨⟩
    | (refine sB F ?_ ?_ <;> intro hZ)
    | refine vp F (c1) ?_
    | refine vp F (c2) ?_
    | (refine vc_S (c3 _ _ _) rfl ?_; rintro ⟨l, e⟩ hl; refine rn F ?_))
  all_goals first
    | exact ⟨rfl, rfl, ([], _), rfl, Nat.zero_le _⟩
    | exact ⟨rfl, rfl, (l, e), rfl, hl⟩
    | skip
@[go_sem] def pniD (a : Pg × Int × Int) : DV := .tup [.agg a.1.d, .int .i64 a.2.1, .int .i64 a.2.2]
theorem rredo0_w (x : Lg) (hx : x.es.length ≤ 4096) (p : Pg) (n : Int) : VCalls prog 170 [.agg x.c, .agg p.d, .int .i64 n] [] (RetS pniD fun a => a.2.2 = 0 → a.1.id = p.id) := by
  refine dk Tryz.func170 ?_
  have c1 := rlacksR_w x hx p n
  (unfold Tryz.f170; refine rn trivial ?_)
  refine rn F ?_
  repeat' (first
    | with_reducible exact ⟨⟩
    | (refine sB F ?_ ?_ <;> intro hZ)
    | (refine vc_S (c1) rfl ?_; rintro ⟨l, e⟩ hl; refine rn F ?_))
  all_goals first
    | exact ⟨rfl, rfl, (Pg0, 0, e), rfl, fun h => absurd h (by assumption)⟩
    | skip
  dsimp only at hl
  refine vloopW (fun s : {s : Nat × Pg // s.1 ≤ l.length ∧ s.2.id = p.id} => ⟨45, 0, [(11, .int .i64 s.1.1), (9, .pv (.sl (fz encE l))), (6, .ptr 1 0), (4, .ptr 0 0)], [⟨168, true, s.1.2.d⟩, ⟨168, true, Pg0.d⟩]⟩) (fun s => l.length - s.1.1) ⟨(0, p), Nat.zero_le _, rfl⟩ (gc [1, 2]) ?_
  rintro ⟨⟨i, q⟩, hi, hq⟩
  dsimp only at hi hq ⊢
  have hg := fun h : i < l.length => fzE_g l i h
  have c2 := rapply_w q (l.getD i E0)
  have F := @hg
  refine rn F ?_
  repeat' (first
    | with_reducible exact ⟨⟩
    | (refine sB F ?_ ?_ <;> intro hZ)
    | (refine vc_S (c2) rfl ?_; rintro ⟨q2, e2⟩ hq2; refine rn F ?_)
    | (refine vspine (id := 7) [0, 1, 2, 3, 4] [⟨[], [], 5, [1, 2, 3], [6, 7, 8]⟩, ⟨[], [], 9, [8], []⟩, ⟨[], [], 10, [], []⟩] (by kernel_rfl) (by kernel_rfl) ?_; refine rn F ?_))
  all_goals first
    | exact ⟨rfl, rfl, (Pg0, 0, e2), rfl, fun h => absurd h (by assumption)⟩
    | exact ⟨rfl, rfl, (q, l.length, 0), rfl, fun _ => hq⟩
    | exact ⟨⟨(i + 1, q2), by dsimp only; omega, (hq2 (by dsimp only; omega)).trans hq⟩, by dsimp only; omega, (gc [0, 1])⟩
    | skip
theorem rredo_w (x : Lg) (hx : x.es.length ≤ 4096) (p : Pg) (n : Int) : VCalls prog 126 [.agg x.c, .agg p.d, .int .i64 n] [] (RetS piD fun a => a.2 = 0 → a.1.id = p.id) := by
  refine dd Tryz.func126 ?_
  have c1 := rredo0_w x hx p n
  (unfold Tryz.f126; refine rn trivial ?_)
  refine rn F ?_
  repeat' (first
    | with_reducible exact ⟨⟩
    | (refine vc_S (c1) rfl ?_; rintro ⟨q, m, e⟩ hq; refine rn F ?_))
  exact ⟨rfl, rfl, (q, e), rfl, hq⟩
end
section
attribute [local go_sem] iteLe
structure Sv where
  k : Kn
  v : Dv
@[go_sem] def Sv.d (s : Sv) : List DV := [.int .i64 s.k.pg, .int .i64 s.k.nx, .int .i64 s.k.lg.f, .pv (.sl (fz encE s.k.lg.es)), .int .i64 s.k.lg.d, .int .i64 s.k.pl.size, .pv (.sl (fz encF s.k.pl.fs)), .int .i64 s.k.pl.hand, .pv (.sl (fz encG s.k.lk.held)), .pv (.sl (fz encG s.k.lk.wait)), .pv (.sl (fz encT s.k.tx)), .pv (.sl (fz encR s.k.ix)), .pv (.sl (fz encY s.k.la)), .pv (.sl (fz encS s.v.ps)), .int .i64 s.v.wr, .pv (.sl []), .bool s.v.dead, .pv (.sl [])]
def Sv0 : Sv := ⟨Kn0, Dv0⟩
def Sv.sm (s : Sv) : Prop := s.k.sm ∧ s.v.ps.length ≤ 64
theorem Sv0_sm : Sv0.sm := ⟨Kn0_sm, Nat.zero_le _⟩
@[go_sem] def svD (a : Sv × Int) : DV := .tup [.agg a.1.d, .int .i64 a.2]
def Zv : List DV := [.int .i64 0, .int .i64 0, .int .i64 0, .pv (.slc []), .int .i64 0, .int .i64 0, .pv (.slc []), .int .i64 0, .pv (.slc []), .pv (.slc []), .pv (.slc []), .pv (.slc []), .pv (.slc []), .pv (.slc []), .int .i64 0, .pv (.slc []), .bool false, .pv (.slc [])]
def writeQ (k : Kn) (x : Pg) (a : Sv × Int) : Prop := a.1.sm ∧ (a.2 = 0 → Ev k.lg a.1.k.lg ∧ a.1.k.tx = k.tx ∧ (0 ≤ findS k.pl x.id → a.1.k.pl = (cleanS k.pl x.id x.lsn).1 ∧ (cleanS k.pl x.id x.lsn).2 = 0))
theorem rwrite_w (s : Sv) (hs : s.v.ps.length ≤ 64) (k : Kn) (hk : k.sm) (x : Pg) : VCalls prog 93 [.agg s.d, .agg k.d, .agg x.d] [] (RetS svD (writeQ k x)) := by
  refine dk Tryz.func93 ?_
  have c1 := rpenc_w x
  have c2 := fun (t : List UInt8) (h : t.length ≤ 256) => rdwrite_w s.v (by omega) x.id t (by omega)
  have c3 := rwritten_w k hk x.id x.lsn
  (unfold Tryz.f93; refine rn trivial ?_)
  refine rn F ?_
  repeat' (first
    | with_reducible exact ⟨⟩
    | (refine sB F ?_ ?_ <;> intro hZ)
    | (refine vc_S (c1) rfl ?_; rintro ⟨t, e1⟩ ht; refine rn F ?_)
    | (refine vc_S (c2 t ht) rfl ?_; rintro ⟨v1, e2⟩ hv; refine rn F ?_)
    | (refine vc_S (c3) rfl ?_; rintro ⟨k1, e3⟩ hq; refine rn F ?_))
  all_goals first
    | exact ⟨rfl, rfl, (Sv0, e2), rfl, Sv0_sm, fun h => absurd h (by assumption)⟩
    | exact ⟨rfl, rfl, (Sv0, e3), rfl, Sv0_sm, fun h => absurd h (by assumption)⟩
    | (have q := hq.2 (by dsimp only; omega)
       exact ⟨rfl, rfl, (⟨k1, v1⟩, 0), rfl, ⟨hq.1, hv⟩, fun _ => ⟨q.2.1, q.2.2.1, q.2.2.2.1⟩⟩)
    | skip
def dirtyN (l : List Fm) : Nat := l.countP (·.dirty)
theorem dirtyN_clr (l : List Fm) : dirtyN (l.map Fm.clr) = dirtyN l := by
  unfold dirtyN; rw [List.countP_map]; rfl
theorem SameF.dirty {l m : List Fm} (h : SameF l m) : dirtyN m = dirtyN l := by
  rw [← dirtyN_clr m, ← dirtyN_clr l, show m.map Fm.clr = l.map Fm.clr from h]
theorem dirtyN_set (l : List Fm) (i : Nat) (h : i < l.length) (hu : (l.getD i Fm0).dirty = true) (f : Fm) (hf : f.dirty = false) : dirtyN (l.set i f) < dirtyN l := by
  unfold dirtyN
  rw [List.countP_set h]
  rw [getD_eq l i h] at hu
  have : 0 < l.countP (·.dirty) := List.countP_pos_iff.2 ⟨l[i], List.getElem_mem h, hu⟩
  simp only [hu, hf, if_true]
  simp
  omega
theorem clean_less {p : Pl} {x : Pg} {i : Nat} (hp : plB p = true) (hi : i < p.fs.length) (h1 : idF p.fs x.id = i) (h2 : (p.fs.getD i Fm0).pg = x) (h3 : (p.fs.getD i Fm0).dirty = true) : dirtyN (cleanS p x.id x.lsn).1.fs < dirtyN p.fs := by
  unfold cleanS
  rw [if_neg (by rw [hp]; decide), h1, if_neg (by omega), Int.toNat_natCast, h2, if_neg (by omega), if_neg (by rw [h3]; decide)]
  refine dirtyN_set _ _ hi h3 _ ?_
  unfold cleanF
  rw [h2, if_pos rfl]
def stQ (s : Sv) (a : Sv × Int) : Prop := a.1.sm ∧ (a.2 = 0 → Ev s.k.lg a.1.k.lg ∧ a.1.k.tx = s.k.tx)
structure Rm (s0 : Sv) where
  s : Sv
  sm : s.sm
  ev : Ev s0.k.lg s.k.lg
  tx : s.k.tx = s0.k.tx
theorem rroomS_w (s : Sv) (hs : s.sm) : VCalls prog 122 [.agg s.d] [] (RetS svD (stQ s)) := by
  refine dk Tryz.func122 ?_
  (unfold Tryz.f122; refine rn trivial ?_)
  refine vloopW (fun r : Rm s => ⟨36, 0, [(2, .ptr 1 0), (1, .ptr 0 0)], [⟨111, true, r.s.d⟩, ⟨111, true, Zv⟩]⟩) (fun r => dirtyN r.s.k.pl.fs) ⟨s, hs, Ev.refl _, rfl⟩ (gc [0, 1]) ?_
  rintro ⟨s1, sm, ev, tx⟩
  dsimp only
  have c1 := rroom_w s1.k sm.1
  have c2 := fun k hk x => rwrite_w s1 sm.2 k hk x
  unfold Zv
  refine rn F ?_
  repeat' (first
    | with_reducible exact ⟨⟩
    | (refine sB F ?_ ?_ <;> intro hZ)
    | (refine vc_S (c1) rfl ?_; rintro ⟨k1, x, b, e⟩ hq; refine rn F ?_)
    | (refine vc_S (c2 k1 hq.1 x) rfl ?_; rintro ⟨s2, e2⟩ hq2; refine rn F ?_))
  · exact ⟨rfl, rfl, (Sv0, e), rfl, Sv0_sm, fun h => absurd h (by assumption)⟩
  · have q := hq.2 (by dsimp only; omega)
    exact ⟨rfl, rfl, (⟨k1, s1.v⟩, 0), rfl, ⟨hq.1, sm.2⟩, fun _ => ⟨ev.trans q.1, q.2.1.trans tx⟩⟩
  · exact ⟨rfl, rfl, (Sv0, e2), rfl, Sv0_sm, fun h => absurd h (by assumption)⟩
  · have q := hq.2 (by dsimp only; omega)
    have q2 := hq2.2 (by dsimp only; omega)
    obtain ⟨p1, p2, i, p3, p4, p5, p6⟩ := q.2.2 (by dsimp only; first | assumption | simp_all)
    dsimp only at p1 p2 p3 p4 p5 p6
    have hf : findS k1.pl x.id = i := by unfold findS; rw [if_pos p1]; exact p4
    obtain ⟨r1, r2⟩ := q2.2.2 (by rw [hf]; omega)
    have hlt := clean_less p1 p3 p4 p5 p6
    rw [p2.dirty] at hlt
    dsimp only at r1
    exact ⟨⟨s2, hq2.1, (ev.trans q.1).trans q2.1, q2.2.1.trans (q.2.1.trans tx)⟩, by dsimp only; rw [r1]; exact hlt, (gc [0, 1])⟩
def fetchQ (s : Sv) (n : Int) (a : Sv × Int) : Prop := a.1.sm ∧ (a.2 = 0 → Ev s.k.lg a.1.k.lg ∧ a.1.k.tx = s.k.tx ∧ 0 ≤ idF a.1.k.pl.fs n)
theorem rfetch_w (s : Sv) (hs : s.sm) (n : Int) : VCalls prog 98 [.agg s.d, .int .i64 n] [] (RetS svD (fetchQ s n)) := by
  refine dk Tryz.func98 ?_
  have c1 := rkvalid_w s.k hs.1
  have c2 := rpfind_v s.k.pl (Nat.le_trans hs.1.2.1 (by decide)) n
  have c3 := rroomS_w s hs
  have c4 := fun (t : Sv) (h : t.sm) => rdread_w t.v (Nat.le_trans h.2 (by decide)) n
  have c5 := fun (t : Sv) (h : t.sm) => rhead_w t.k h.1 n
  have c6 := fun (t : Sv) (h : t.sm) (hd : Int) (b : List UInt8) (hb : b.length ≤ 1000000) => rjudge_w t.k.ix h.1.2.2.2.2.1 n hd b hb
  have c7 := fun (t : Sv) (h : t.sm) (p : Pg) (hd : Int) => rredo_w t.k.lg h.1.1 p hd
  have c8 := fun (t : Sv) (h : t.sm) (p : Pg) => rsupply_w t.k h.1 p
  have hfi : 0 ≤ findS s.k.pl n → 0 ≤ idF s.k.pl.fs n := fun h => by unfold findS at h; split at h <;> omega
  have e0 : ∀ e, e ≠ 0 → fetchQ s n (Sv0, e) := fun e h => ⟨Sv0_sm, fun h2 => absurd h2 h⟩
  generalize findS s.k.pl n = fi at *
  (unfold Tryz.f98; refine rn trivial ?_)
  refine rn F ?_
  repeat' (first
    | with_reducible exact ⟨⟩
    | (refine sG F ?_ ?_ <;> intro hZ)
    | (refine sB F ?_ ?_ <;> intro hZ)
    | (refine vc_S (c1) rfl ?_; rintro b -; refine rn F ?_)
    | refine vp F (c2) ?_
    | (refine vc_S (c3) rfl ?_; rintro ⟨s1, e1⟩ hq1; refine rn F ?_)
    | (refine vc_S (c4 s1 hq1.1) rfl ?_; rintro ⟨t, e2⟩ ht; refine rn F ?_)
    | (refine vc_S (c5 s1 hq1.1) rfl ?_; rintro hd -; refine rn F ?_)
    | (refine vc_S (c6 s1 hq1.1 hd t (by have := ht (by dsimp only; omega); dsimp only at this; omega)) rfl ?_; rintro ⟨p, e3⟩ hp; refine rn F ?_)
    | (refine vc_S (c7 s1 hq1.1 p hd) rfl ?_; rintro ⟨p2, e4⟩ hp2; refine rn F ?_)
    | (refine vc_S (c8 s1 hq1.1 p2) rfl ?_; rintro ⟨k2, e5⟩ hq5; refine rn F ?_))
  all_goals first
    | exact ⟨rfl, rfl, (s, 0), rfl, hs, fun _ => ⟨Ev.refl _, rfl, hfi (by omega)⟩⟩
    | exact ⟨rfl, rfl, (Sv0, _), rfl, e0 _ (by assumption)⟩
    | exact ⟨rfl, rfl, (Sv0, 15), rfl, e0 _ (by decide)⟩
    | exact ⟨rfl, rfl, (Sv0, 1), rfl, e0 _ (by decide)⟩
    | (have q1 := hq1.2 (by dsimp only; omega)
       have q5 := hq5.2 (by dsimp only; omega)
       have i3 := hp (by dsimp only; omega)
       have i4 := hp2 (by dsimp only; omega)
       dsimp only at q1 q5 i3 i4
       exact ⟨rfl, rfl, (⟨k2, s1.v⟩, 0), rfl, ⟨hq5.1, hq1.1.2⟩, fun _ => ⟨by dsimp only; rw [q5.1]; exact q1.1, q5.2.1.trans q1.2, by dsimp only; have := q5.2.2; rw [i4, i3] at this; exact this⟩⟩)
    | skip
end
section
attribute [local go_sem] iteLe
@[go_sem] def tiD (a : Tx × Int) : DV := .tup [.agg a.1.d, .int .i64 a.2]
@[go_sem] def ebD (a : E × Bool) : DV := .tup [.agg a.1.d, .bool a.2]
def txAt (l : List Tx) (a : Int) : Tx := l.getD (idT l a).toNat Tx0
def rollQ (k : Kn) (tx : Int) (a : Tx × Int) : Prop := a.1.l.length ≤ 100000 ∧ (a.2 = 0 → VK k ∧ 0 ≤ idT k.tx tx ∧ a.1 = txAt k.tx tx)
theorem rrolling_w (k : Kn) (h : k.sm) (tx : Int) : VCalls prog 129 [.agg k.d, .int .i64 tx] [] (RetS tiD (rollQ k tx)) := by
  refine dk Tryz.func129 ?_
  have c1 := rkvalid_w k h
  obtain ⟨h1, h2, h3, h4, h5, h6⟩ := h
  have c2 := rfind_v k.tx (Nat.le_trans h4.1 (by decide)) tx
  have e0 : ∀ e, e ≠ 0 → rollQ k tx (Tx0, e) := fun e h => ⟨by simp [Tx0], fun h2 => absurd h2 h⟩
  rcases idT_cases k.tx tx with hn | ⟨i, hil, hid, _⟩
  · rw [hn] at c2
    (unfold Tryz.f129; refine rn trivial ?_)
    refine rn F ?_
    repeat' (first
      | with_reducible exact ⟨⟩
      | (refine sB F ?_ ?_ <;> intro hZ)
      | (refine vc_S (c1) rfl ?_; rintro b -; refine rn F ?_)
      | refine vp F (c2) ?_)
    all_goals exact ⟨rfl, rfl, (Tx0, _), rfl, e0 _ (by decide)⟩
  rw [hid] at c2
  have hg := fzT_g k.tx i hil
  have ht : (k.tx.getD i Tx0).l.length ≤ 100000 := by rw [getD_eq _ _ hil]; exact (h4.2 _ (List.getElem_mem hil)).1
  have he : txAt k.tx tx = k.tx.getD i Tx0 := by unfold txAt; rw [hid]; rfl
  (unfold Tryz.f129; refine rn trivial ?_)
  have F := @hg
  refine rn F ?_
  repeat' (first
    | with_reducible exact ⟨⟩
    | (refine sB F ?_ ?_ <;> intro hZ)
    | (refine vc_S (c1) rfl ?_; rintro b hb; refine rn F ?_)
    | refine vp F (c2) ?_)
  all_goals first
    | exact ⟨rfl, rfl, (k.tx.getD i Tx0, 0), rfl, ht, fun _ => ⟨hb (by assumption), by omega, he.symm⟩⟩
    | exact ⟨rfl, rfl, (Tx0, 15), rfl, e0 _ (by decide)⟩
    | exact ⟨rfl, rfl, (Tx0, 16), rfl, e0 _ (by decide)⟩
    | skip
def nextN (l : List Tx) (a : Int) : Int := (txAt l a).l.getD ((txAt l a).l.length - 1) 0
def nextE (l : List Tx) (g : Lg) (a : Int) : E := (getE g (nextN l a)).1
def nextQ (k : Kn) (tx : Int) (a : E × Bool) : Prop := a.2 = true → VK k ∧ a.1 = nextE k.tx k.lg tx ∧ (getE k.lg (nextN k.tx tx)).2 = 0
theorem rnext_w (k : Kn) (h : k.sm) (tx : Int) : VCalls prog 131 [.agg k.d, .int .i64 tx] [] (RetS ebD (nextQ k tx)) := by
  refine dk Tryz.func131 ?_
  have c1 := rrolling_w k h tx
  obtain ⟨h1, h2, h3, h4, h5, h6⟩ := h
  have c2 := rget_e k.lg (by omega)
  have e0 : nextQ k tx (E0, false) := fun h => by cases h
  (unfold Tryz.f131; refine rn trivial ?_)
  refine vc_S c1 rfl ?_
  rintro ⟨t, e⟩ ⟨ht, hq⟩
  dsimp only at ht hq
  have hg := fun h : t.l.length - 1 < t.l.length => fzI_get t.l (t.l.length - 1) h
  have F := @hg
  refine rn F ?_
  repeat' (first
    | with_reducible exact ⟨⟩
    | (refine sG F ?_ ?_ <;> intro hZ)
    | (refine sB F ?_ ?_ <;> intro hZ)
    | refine vp F (c2 _) ?_
    | (refine vspine (id := 2) [0, 1, 2, 3, 4, 5, 6, 7, 8, 9, 10, 11, 12, 13, 14, 15, 16, 17, 18, 19, 20] [] (by kernel_rfl) (by kernel_rfl) ?_; refine rn F ?_)
    | (refine vspine (id := 4) [0, 1, 2, 3, 4, 5, 6, 7, 8, 9] [⟨[14], [], 10, [0, 2, 3, 4, 5, 6, 7, 8], [11, 12, 13]⟩, ⟨[14], [14], 15, [13], []⟩, ⟨[], [], 16, [], []⟩] (by kernel_rfl) (by kernel_rfl) ?_; refine rn F ?_))
  all_goals first
    | exact ⟨rfl, rfl, (E0, false), rfl, e0⟩
    | skip
  obtain ⟨v, _, rfl⟩ := hq (by first | omega | simp_all)
  exact ⟨rfl, rfl, ((getE k.lg (nextN k.tx tx)).1, _), rfl, fun h => ⟨v, rfl, by simpa [nextN] using h⟩⟩
theorem rof_w (k : Kn) (h : k.sm) (t : Tx) (ht : t.l.length ≤ 100000) (pg sl : Int) : VCalls prog 223 [.agg k.d, .agg t.d, .agg [.int .i64 pg, .int .i64 sl], .int .i64 t.l.length] [] (RetS ebD fun a => a.2 = true → a.1.c.pg = pg) := by
  refine dk Tryz.func223 ?_
  obtain ⟨h1, h2, h3, h4, h5, h6⟩ := h
  have c2 := rget_e k.lg (by omega)
  (unfold Tryz.f223; refine rn trivial ?_)
  refine vloopW (fun s : To t.l.length => ⟨50, 0, [(10, .int .i64 ((s.i : Int) - 1)), (8, .ptr 3 0), (6, .ptr 2 0), (5, .ptr 1 0), (4, .ptr 0 0)], [⟨83, true, k.d⟩, ⟨209, true, t.d⟩, ⟨188, true, [.int .i64 pg, .int .i64 sl]⟩, ⟨41, true, E0.d⟩]⟩) (fun s => s.i) ⟨t.l.length, Nat.le_refl _⟩ (gc [0, 1, 2, 3]) ?_
  rintro ⟨i, hi⟩
  dsimp only
  have hg := fun h : i - 1 < t.l.length => fzI_get t.l (i - 1) h
  have c3 := c2 (t.l.getD (i - 1) 0)
  generalize getE k.lg (t.l.getD (i - 1) 0) = g at *
  have F := @hg
  refine rn F ?_
  repeat' (first
    | with_reducible exact ⟨⟩
    | (refine sG F ?_ ?_ <;> intro hZ)
    | (refine sB F ?_ ?_ <;> intro hZ)
    | refine vp F (c3) ?_
    | (refine vspine (id := 4) [0, 1, 2, 3, 4, 5, 6] [⟨[11], [], 7, [0, 2, 3, 4, 5], [8, 9, 10]⟩, ⟨[11], [11], 12, [10], []⟩, ⟨[], [], 13, [], []⟩] (by kernel_rfl) (by kernel_rfl) ?_; refine rn F ?_))
  all_goals first
    | exact ⟨rfl, rfl, (E0, false), rfl, fun h => by cases h⟩
    | exact ⟨rfl, rfl, (g.1, true), rfl, fun _ => by dsimp only; omega⟩
    | (refine ⟨⟨i - 1, by omega⟩, by dsimp only; omega, ?_⟩
       dsimp only
       rw [show ((i - 1 : Nat) : Int) - 1 = (i : Int) - 1 - 1 by omega]
       exact (gc [0, 1, 2, 3]))
    | skip
theorem rnextof_w (k : Kn) (h : k.sm) (tx pg sl : Int) : VCalls prog 177 [.agg k.d, .int .i64 tx, .agg [.int .i64 pg, .int .i64 sl]] [] (RetS ebD fun a => a.2 = true → a.1.c.pg = pg) := by
  refine dk Tryz.func177 ?_
  have c1 := rrolling_w k h tx
  (unfold Tryz.f177; refine rn trivial ?_)
  refine vc_S c1 rfl ?_
  rintro ⟨t, e⟩ ⟨ht, hq⟩
  have c2 := rof_w k h t ht
  refine rn F ?_
  repeat' (first
    | with_reducible exact ⟨⟩
    | (refine sG F ?_ ?_ <;> intro hZ)
    | (refine sB F ?_ ?_ <;> intro hZ)
    | (refine vc_S (c2 _ _) rfl ?_; rintro ⟨y, b⟩ hb; refine rn F ?_))
  all_goals first
    | exact ⟨rfl, rfl, (E0, false), rfl, fun h => by cases h⟩
    | exact ⟨rfl, rfl, (y, b), rfl, hb⟩
    | skip
def undoQ (k : Kn) (pg : Int) (a : Kn × Rs) : Prop := a.1.sm ∧ Ev k.lg a.1.lg ∧ (a.2.st = 3 → a.1 = k ∧ a.2.pg = pg ∧ idF k.pl.fs pg < 0) ∧ (a.2.st ≠ 3 → a.2.st ≠ 5 → k.lg.es.length < a.1.lg.es.length) ∧ (a.2.st = 5 → a.2.er ≠ 0)
theorem rundo_w (k : Kn) (h : k.sm) (hv : VK k) (t : Tx) (e : E) : VCalls prog 132 [.agg k.d, .agg t.d, .agg e.d] [] (RetS krD (undoQ k e.c.pg)) := by
  refine dk Tryz.func132 ?_
  have h' := h
  obtain ⟨h1, h2, h3, h4, h5, h6⟩ := h
  have c1 := rpget_v k.pl (by omega) e.c.pg
  have hn := getS_no (a := e.c.pg) hv.2.2.2.1
  have c2 := rinv_v e.c
  generalize getS k.pl e.c.pg = g at *
  have c3 := rpapply_w g.1 ⟨e.c.pg, e.c.sl, e.c.a, e.c.b⟩
  have c4 := rset_w k h' ⟨0, 2, t.id, 0, 0, e.lsn, ⟨e.c.pg, e.c.sl, e.c.a, e.c.b⟩, []⟩ (.inr rfl)
  have hf : ∀ er, er ≠ 0 → undoQ k e.c.pg (k, failR er) := fun er hr => ⟨h', Ev.refl _, fun h => by simp [failR] at h, fun _ h => absurd rfl h, fun _ => hr⟩
  (unfold Tryz.f132; refine rn trivial ?_)
  refine rn F ?_
  repeat' (first
    | with_reducible exact ⟨⟩
    | (refine sB F ?_ ?_ <;> intro hZ)
    | refine vp F (c1) ?_
    | refine vp F (c2) ?_
    | (refine vc_S (c3) rfl ?_; rintro ⟨p1, e1⟩ -; refine rn F ?_)
    | (refine vc_S (c4) rfl ?_; rintro ⟨k1, e2⟩ hq; refine rn F ?_)
    | refine vp F (failed_v _) ?_
    | (refine vc_S (rnextof_w k1 hq.1 _ _ _) rfl ?_; rintro ⟨y, b⟩ -; refine rn F ?_)
    | (refine vc_S (rdrop_w k1.lk (Nat.le_trans hq.1.2.2.1 (by decide)) _ _ _) rfl ?_; rintro u hu; refine rn F ?_)
    | (refine vspine (id := 3) [0, 1, 2, 3, 4] [⟨[], [], 5, [1, 2, 3, 4], []⟩, ⟨[], [], 6, [], []⟩] (by kernel_rfl) (by kernel_rfl) ?_; refine rn F ?_)
    | (refine vspine (id := 7) [0, 1] [⟨[], [], 2, [0], []⟩, ⟨[], [], 3, [1], []⟩, ⟨[], [], 4, [], []⟩] (by kernel_rfl) (by kernel_rfl) ?_; refine rn F ?_)
    | (refine vspine (id := 10) [0, 1] [⟨[], [], 2, [0], []⟩, ⟨[], [], 3, [1], []⟩, ⟨[], [], 4, [], []⟩] (by kernel_rfl) (by kernel_rfl) ?_; refine rn F ?_)
    | (refine vspine (id := 16) [0, 1, 2, 3] [⟨[], [], 4, [1, 2, 3], []⟩, ⟨[], [], 5, [], []⟩] (by kernel_rfl) (by kernel_rfl) ?_; refine rn F ?_))
  all_goals first
    | exact ⟨rfl, rfl, (k, ⟨3, 0, e.c.pg, Ce0, 0⟩), rfl, h', Ev.refl _, fun _ => ⟨rfl, rfl, hn (by first | assumption | simp_all)⟩, fun h => absurd rfl h, fun h => by simp at h⟩
    | exact ⟨rfl, rfl, (k, failR _), rfl, hf _ (by assumption)⟩
    | (have q := hq.2.1 (by dsimp only; omega)
       dsimp only at q
       first
         | exact ⟨rfl, rfl, (k1, ⟨1, t.id, 0, Ce0, 0⟩), rfl, hq.1, q.1, fun h => by simp at h, fun _ _ => by dsimp only; omega, fun h => by simp at h⟩
         | (obtain ⟨r1, r2, r3, r4, r5, r6⟩ := hq.1
            exact ⟨rfl, rfl, (⟨k1.pg, k1.nx, k1.lg, k1.pl, u, k1.tx, k1.ix, k1.la⟩, ⟨1, t.id, 0, Ce0, 0⟩), rfl, ⟨r1, r2, Nat.le_trans hu r3, r4, r5, r6⟩, q.1, fun h => by simp at h, fun _ _ => by dsimp only; omega, fun h => by simp at h⟩))
    | skip
end
section
attribute [local go_sem] iteLe
def stepQ (k : Kn) (tx : Int) (a : Kn × Rs) : Prop := a.1.sm ∧ Ev k.lg a.1.lg ∧ (a.2.st = 3 → VK k ∧ a.1 = k ∧ a.2.pg = (nextE k.tx k.lg tx).c.pg ∧ (getE k.lg (nextN k.tx tx)).2 = 0 ∧ idF k.pl.fs a.2.pg < 0) ∧ (a.2.st ≠ 3 → a.2.st ≠ 5 → k.lg.es.length < a.1.lg.es.length) ∧ (a.2.st = 5 → a.2.er ≠ 0)
theorem rstep_w (k : Kn) (h : k.sm) (tx : Int) : VCalls prog 100 [.agg k.d, .int .i64 tx] [] (RetS krD (stepQ k tx)) := by
  refine dk Tryz.func100 ?_
  have c1 := rrolling_w k h tx
  have c2 := rkadd_w k h ⟨0, 5, tx, 0, 0, 0, Ch0, []⟩
  have c3 := rnext_w k h tx
  have hf : ∀ er, er ≠ 0 → stepQ k tx (k, failR er) := fun er hr => ⟨h, Ev.refl _, fun h => by simp [failR] at h, fun _ h => absurd rfl h, fun _ => hr⟩
  (unfold Tryz.f100; refine rn trivial ?_)
  refine vc_S c1 rfl ?_
  rintro ⟨t, e⟩ ⟨ht, hq0⟩
  by_cases he : e = 0
  rotate_left
  · skip
    have F := @he
    refine rn F ?_
    repeat' (first
      | with_reducible exact ⟨⟩
      | refine vp F (failed_v _) ?_
      | (refine vspine (id := 3) [0, 1] [⟨[], [], 2, [0], []⟩, ⟨[], [], 3, [1], []⟩, ⟨[], [], 4, [], []⟩] (by kernel_rfl) (by kernel_rfl) ?_; refine rn F ?_))
    exact ⟨rfl, rfl, (k, failR e), rfl, hf _ he⟩
  obtain ⟨hv, hi, rfl⟩ := hq0 he
  subst he
  generalize txAt k.tx tx = t at *
  have F := trivial
  refine rn F ?_
  repeat' (first
    | with_reducible exact ⟨⟩
    | (refine sG F ?_ ?_ <;> intro hZ)
    | (refine sB F ?_ ?_ <;> intro hZ)
    | (refine vc_S (c2) rfl ?_; rintro ⟨k1, n1, e1⟩ hq; refine rn F ?_)
    | refine vp F (failed_v _) ?_
    | (refine vc_S (rrelease_w k1.lk (Nat.le_trans hq.1.2.2.1 (by decide)) tx) rfl ?_; rintro u hu; refine rn F ?_)
    | (refine vc_S (c3) rfl ?_; rintro ⟨y, ok⟩ hy; refine rn F ?_)
    | (refine vc_S (rundo_w k h hv ⟨_, _, _, _, _, _⟩ y) rfl ?_; rintro ⟨k2, r2⟩ hq2; refine rn F ?_)
    | (refine vspine (id := 7) [0, 1] [⟨[], [], 2, [0], []⟩, ⟨[], [], 3, [1], []⟩, ⟨[], [], 4, [], []⟩] (by kernel_rfl) (by kernel_rfl) ?_; refine rn F ?_)
    | (refine vspine (id := 12) [0] [⟨[], [], 1, [0], []⟩, ⟨[], [], 2, [], []⟩, ⟨[], [], 3, [], []⟩] (by kernel_rfl) (by kernel_rfl) ?_; refine rn F ?_))
  all_goals first
    | exact ⟨rfl, rfl, (k, failR _), rfl, hf _ (by first | assumption | decide)⟩
    | (obtain ⟨q1, q2, q3, q4, q5, q6, q7⟩ := addQ_ev hq (by omega)
       obtain ⟨r1, r2, r3, r4, r5, r6⟩ := hq.1
       exact ⟨rfl, rfl, (⟨k1.pg, k1.nx, k1.lg, k1.pl, u, k1.tx, k1.ix, k1.la⟩, ⟨1, 0, 0, Ce0, 0⟩), rfl, ⟨r1, r2, Nat.le_trans hu r3, r4, r5, r6⟩, q1, fun h => by simp at h, fun _ _ => by dsimp only; omega, fun h => by simp at h⟩)
    | (obtain ⟨y1, y2, y3⟩ := hy (by first | assumption | simp_all)
       dsimp only at y2
       exact ⟨rfl, rfl, (k2, r2), rfl, hq2.1, hq2.2.1, fun h => ⟨hv, (hq2.2.2.1 h).1, by rw [← y2]; exact (hq2.2.2.1 h).2.1, y3, by rw [(hq2.2.2.1 h).2.1]; exact (hq2.2.2.1 h).2.2⟩, hq2.2.2.2.1, hq2.2.2.2.2⟩)
    | skip
def cellQ (k : Kn) (pg : Int) (a : Kn × Rs) : Prop := a.1.sm ∧ Ev k.lg a.1.lg ∧ (a.2.st = 3 → a.1 = k ∧ a.2.pg = pg ∧ idF k.pl.fs pg < 0) ∧ (a.2.st ≠ 3 → a.2.st ≠ 5 → a.2.tx ≠ 0 → k.lg.es.length < a.1.lg.es.length)
theorem rcell_w (k : Kn) (h : k.sm) (tx pg sl : Int) : VCalls prog 140 [.agg k.d, .int .i64 tx, .agg [.int .i64 pg, .int .i64 sl]] [] (RetS krD (cellQ k pg)) := by
  refine dk Tryz.func140 ?_
  have c1 := rrolling_w k h tx
  have c3 := rnextof_w k h tx pg sl
  have hf : ∀ er, cellQ k pg (k, failR er) := fun er => ⟨h, Ev.refl _, fun h => by simp [failR] at h, fun _ h => absurd rfl h⟩
  (unfold Tryz.f140; refine rn trivial ?_)
  refine vc_S c1 rfl ?_
  rintro ⟨t, e⟩ ⟨ht, hq0⟩
  by_cases he : e = 0
  rotate_left
  · skip
    have F := @he
    refine rn F ?_
    repeat' (first
      | with_reducible exact ⟨⟩
      | refine vp F (failed_v _) ?_
      | (refine vspine (id := 3) [0, 1] [⟨[], [], 2, [0], []⟩, ⟨[], [], 3, [1], []⟩, ⟨[], [], 4, [], []⟩] (by kernel_rfl) (by kernel_rfl) ?_; refine rn F ?_))
    exact ⟨rfl, rfl, (k, failR e), rfl, hf _⟩
  obtain ⟨hv, hi, rfl⟩ := hq0 he
  subst he
  generalize txAt k.tx tx = t at *
  have F := trivial
  refine rn F ?_
  repeat' (first
    | with_reducible exact ⟨⟩
    | (refine sB F ?_ ?_ <;> intro hZ)
    | refine vp F (failed_v _) ?_
    | (refine vc_S (c3) rfl ?_; rintro ⟨y, ok⟩ hy; refine rn F ?_)
    | (refine vc_S (rundo_w k h hv ⟨_, _, _, _, _, _⟩ y) rfl ?_; rintro ⟨k2, r2⟩ hq2; refine rn F ?_)
    | (refine vspine (id := 5) [0] [⟨[], [], 1, [0], []⟩, ⟨[], [], 2, [], []⟩, ⟨[], [], 3, [], []⟩] (by kernel_rfl) (by kernel_rfl) ?_; refine rn F ?_))
  all_goals first
    | exact ⟨rfl, rfl, (k, failR _), rfl, hf _⟩
    | exact ⟨rfl, rfl, (k, ⟨1, 0, 0, Ce0, 0⟩), rfl, h, Ev.refl _, fun h => by simp at h, fun _ _ h => absurd rfl h⟩
    | (have y2 := hy (by first | assumption | simp_all)
       dsimp only at y2
       rw [y2] at hq2
       exact ⟨rfl, rfl, (k2, r2), rfl, hq2.1, hq2.2.1, hq2.2.2.1, fun h1 h2 _ => hq2.2.2.2.1 h1 h2⟩)
    | skip
end
section
attribute [local go_sem] iteLe
theorem Ev.get {x y : Lg} (h : Ev x y) {n : Int} (h0 : (getE x n).2 = 0) : getE y n = getE x n := by
  obtain ⟨hv, h1, h2, _, _⟩ := getE_ok h0
  have hf := h.f
  obtain ⟨t, ht⟩ := h.pre
  have hv2 := h.ok hv
  have hl : y.es.length = x.es.length + t.length := by rw [← ht, List.length_append]
  have hd := lgB_hd hv
  simp only [Lg.hd] at hd
  unfold getE
  rw [if_neg (by rw [hv2]; decide), if_neg (by simp only [Lg.end_] at *; omega), if_neg (by rw [hv]; decide), if_neg (by omega)]
  rw [hf, ← ht]
  congr 1
  simp only [Lg.end_] at h2
  rw [List.getD_eq_getElem?_getD, List.getD_eq_getElem?_getD, List.getElem?_append_left (by omega)]
theorem rrollS_w (s : Sv) (hs : s.sm) (tx : Int) : VCalls prog 136 [.agg s.d, .int .i64 tx] [] (RetS boD fun _ => True) := by
  refine dd Tryz.func136 ?_
  have h4 := hs.1.2.2.2.1
  have c2 := rfind_v s.k.tx (Nat.le_trans h4.1 (by decide)) tx
  rcases idT_cases s.k.tx tx with hn | ⟨i, hil, hid, _⟩
  · rw [hn] at c2
    (unfold Tryz.f136; refine rn trivial ?_)
    refine rn F ?_
    repeat' (first
      | with_reducible exact ⟨⟩
      | refine vp F (c2) ?_)
    all_goals exact ⟨rfl, rfl, _, rfl, trivial⟩
  rw [hid] at c2
  have hg := fzT_g s.k.tx i hil
  (unfold Tryz.f136; refine rn trivial ?_)
  have F := @hg
  refine rn F ?_
  repeat' (first
    | with_reducible exact ⟨⟩
    | refine vp F (c2) ?_)
  all_goals exact ⟨rfl, rfl, _, rfl, trivial⟩
def inP (l : List Fm) (a : Int) : Nat := if 0 ≤ idF l a then 0 else 1
theorem inP_le (l : List Fm) (a : Int) : inP l a ≤ 1 := by unfold inP; split <;> omega
def rbM (tx : Int) (s : Sv) : Nat := 2 * (4096 - s.k.lg.es.length) + inP s.k.pl.fs (nextE s.k.tx s.k.lg tx).c.pg
theorem rbM_more {tx : Int} {s t : Sv} (h : s.k.lg.es.length < t.k.lg.es.length) (hl : t.k.lg.es.length ≤ 4096) : rbM tx t < rbM tx s := by
  have := inP_le t.k.pl.fs (nextE t.k.tx t.k.lg tx).c.pg
  unfold rbM; omega
theorem rbM_page {tx : Int} {s t : Sv} (ev : Ev s.k.lg t.k.lg) (hx : t.k.tx = s.k.tx) (h0 : (getE s.k.lg (nextN s.k.tx tx)).2 = 0) (h1 : idF s.k.pl.fs (nextE s.k.tx s.k.lg tx).c.pg < 0) (h2 : 0 ≤ idF t.k.pl.fs (nextE s.k.tx s.k.lg tx).c.pg) : rbM tx t < rbM tx s := by
  have hl := ev.len
  have e : nextE t.k.tx t.k.lg tx = nextE s.k.tx s.k.lg tx := by unfold nextE; rw [hx, ev.get h0]
  unfold rbM
  rw [e]
  unfold inP
  rw [if_pos h2, if_neg (by omega)]
  omega
def evQ (s : Sv) (a : Sv × Int) : Prop := a.1.sm ∧ (a.2 = 0 → Ev s.k.lg a.1.k.lg)
structure Re (s0 : Sv) where
  s : Sv
  sm : s.sm
  ev : Ev s0.k.lg s.k.lg
theorem rrollback_w (s : Sv) (hs : s.sm) (tx : Int) : VCalls prog 137 [.agg s.d, .int .i64 tx] [] (RetS svD (evQ s)) := by
  refine dk Tryz.func137 ?_
  have c1 := rkvalid_w s.k hs.1
  have c2 := rfind_v s.k.tx (Nat.le_trans hs.1.2.2.2.1.1 (by decide)) tx
  have e0 : ∀ e, e ≠ 0 → evQ s (Sv0, e) := fun e h => ⟨Sv0_sm, fun h2 => absurd h2 h⟩
  (unfold Tryz.f137; refine rn trivial ?_)
  refine rn F ?_
  repeat' (first
    | with_reducible exact ⟨⟩
    | (refine sB F ?_ ?_ <;> intro hZ)
    | (refine vc_S (c1) rfl ?_; rintro b -; refine rn F ?_)
    | refine vp F (c2) ?_)
  all_goals first
    | exact ⟨rfl, rfl, (Sv0, 15), rfl, e0 _ (by decide)⟩
    | exact ⟨rfl, rfl, (Sv0, 16), rfl, e0 _ (by decide)⟩
    | skip
  refine vloopW (fun r : Re s => ⟨56, 0, [(4, .ptr 1 0), (2, .ptr 0 0), (1, .int .i64 tx)], [⟨111, true, r.s.d⟩, ⟨111, true, Zv⟩]⟩) (fun r => rbM tx r.s) ⟨s, hs, Ev.refl _⟩ (gc [0, 1]) ?_
  rintro ⟨s1, sm, ev⟩
  dsimp only
  unfold Zv
  have d1 := rrollS_w s1 sm tx
  have d2 := rstep_w s1.k sm.1 tx
  have d3 := fun n => rfetch_w s1 sm n
  refine rn F ?_
  repeat' (first
    | with_reducible exact ⟨⟩
    | (refine sB F ?_ ?_ <;> intro hZ)
    | (refine vc_S (d1) rfl ?_; rintro b2 -; refine rn F ?_)
    | (refine vc_S (d2) rfl ?_; rintro ⟨k1, r1⟩ hq; refine rn F ?_)
    | (refine vc_S (d3 _) rfl ?_; rintro ⟨s2, e2⟩ hq2; refine rn F ?_)
    | (refine vspine (id := 10) [0, 1, 2] [⟨[], [], 3, [1, 2], []⟩, ⟨[], [], 4, [], []⟩] (by kernel_rfl) (by kernel_rfl) ?_; refine rn F ?_))
  all_goals first
    | exact ⟨rfl, rfl, (s1, 0), rfl, sm, fun _ => ev⟩
    | exact ⟨rfl, rfl, (Sv0, e2), rfl, e0 _ (by assumption)⟩
    | exact ⟨rfl, rfl, (Sv0, r1.er), rfl, e0 _ (hq.2.2.2.2 (by assumption))⟩
    | skip
  · obtain ⟨v, _, g1, g2, g3⟩ := hq.2.2.1 (by first | assumption | omega)
    have q2 := hq2.2 (by dsimp only; omega)
    dsimp only at g1 g3 q2
    rw [g1] at g3 q2
    exact ⟨⟨s2, hq2.1, ev.trans q2.1⟩, rbM_page q2.1 q2.2.1 g2 g3 q2.2.2, (gc [0, 1])⟩
  · have q := hq.2.2.2.1 (by dsimp only; omega) (by dsimp only; omega)
    exact ⟨⟨⟨k1, s1.v⟩, ⟨hq.1, sm.2⟩, ev.trans hq.2.1⟩, rbM_more q hq.1.1, (gc [0, 1])⟩
end
section
attribute [local go_sem] iteLe
@[go_sem] def srD (a : Sv × Rs) : DV := .tup [.agg a.1.d, .agg a.2.d]
def sdoQ (s : Sv) (a : Sv × Rs) : Prop := a.1.sm ∧ Ev s.k.lg a.1.k.lg
def Zr : List DV := [.int .i64 0, .int .i64 0, .int .i64 0, .bool false, .pv (.str []), .int .i64 0]
theorem rsdo_w (s : Sv) (hs : s.sm) (tx : Int) (a : Ac) : VCalls prog 104 [.agg s.d, .int .i64 tx, .agg a.d] [] (RetS srD (sdoQ s)) := by
  refine dk Tryz.func104 ?_
  (unfold Tryz.f104; refine rn trivial ?_)
  refine vloopW (fun r : Re s => ⟨79, 0, [(7, .ptr 3 0), (6, .ptr 2 0), (5, .ptr 1 0), (3, .ptr 0 0), (1, .int .i64 tx)], [⟨111, true, r.s.d⟩, ⟨142, true, a.d⟩, ⟨111, true, Zv⟩, ⟨139, true, Zr⟩]⟩) (fun r => inP r.s.k.pl.fs a.pg) ⟨s, hs, Ev.refl _⟩ (gc [0, 1, 2, 3]) ?_
  rintro ⟨s1, sm, ev⟩
  dsimp only
  unfold Zv Zr
  have d1 := rkdo_w s1.k sm.1 tx a
  have d2 := fun (k : Kn) (hk : k.sm) => rfetch_w ⟨k, s1.v⟩ ⟨hk, sm.2⟩
  have d3 := fun (k : Kn) (hk : k.sm) => rrollS_w ⟨k, s1.v⟩ ⟨hk, sm.2⟩ tx
  have d4 := fun (k : Kn) (hk : k.sm) => rrollback_w ⟨k, s1.v⟩ ⟨hk, sm.2⟩ tx
  refine rn F ?_
  repeat' (first
    | with_reducible exact ⟨⟩
    | (refine sG F ?_ ?_ <;> intro hZ)
    | (refine sB F ?_ ?_ <;> intro hZ)
    | (refine vc_S (d1) rfl ?_; rintro ⟨k1, r1⟩ hq; refine rn F ?_)
    | (refine vc_S (d2 k1 hq.1 _) rfl ?_; rintro ⟨s2, e2⟩ hq2; refine rn F ?_)
    | refine vp F (failed_v _) ?_
    | (refine vc_S (d3 k1 hq.1) rfl ?_; rintro b -; refine rn F ?_)
    | (refine vc_S (d4 k1 hq.1) rfl ?_; rintro ⟨s3, e3⟩ hq3; refine rn F ?_)
    | (refine vspine (id := 6) [0, 1] [⟨[], [], 2, [0], []⟩, ⟨[], [], 3, [1], []⟩, ⟨[], [], 4, [], []⟩] (by kernel_rfl) (by kernel_rfl) ?_; refine rn F ?_)
    | (refine vspine (id := 12) [0, 1] [⟨[], [], 2, [0], []⟩, ⟨[], [], 3, [1], []⟩, ⟨[], [], 4, [], []⟩] (by kernel_rfl) (by kernel_rfl) ?_; refine rn F ?_)
    | (refine vspine (id := 14) [0, 1] [⟨[], [], 2, [1], []⟩, ⟨[], [], 3, [], []⟩] (by kernel_rfl) (by kernel_rfl) ?_; refine rn F ?_))
  all_goals first
    | exact ⟨rfl, rfl, (⟨k1, s1.v⟩, failR _), rfl, ⟨hq.1, sm.2⟩, ev.trans hq.2.1⟩
    | exact ⟨rfl, rfl, (⟨k1, s1.v⟩, r1), rfl, ⟨hq.1, sm.2⟩, ev.trans hq.2.1⟩
    | (have q3 := hq3.2 (by dsimp only; omega)
       exact ⟨rfl, rfl, (s3, r1), rfl, hq3.1, (ev.trans hq.2.1).trans q3⟩)
    | skip
  obtain ⟨g1, g2, g3⟩ := hq.2.2 (by first | assumption | (dsimp only; omega))
  have q2 := hq2.2 (by dsimp only; omega)
  dsimp only at g1 g2 g3 q2
  rw [g2] at q2
  refine ⟨⟨s2, hq2.1, (ev.trans hq.2.1).trans q2.1⟩, ?_, (gc [0, 1, 2, 3])⟩
  unfold inP
  dsimp only
  rw [if_pos q2.2.2, if_neg (by omega)]
  omega
@[go_sem] def siiD (a : Sv × Int × Int) : DV := .tup [.agg a.1.d, .int .i64 a.2.1, .int .i64 a.2.2]
theorem rsbegin_w (s : Sv) (hs : s.sm) : VCalls prog 79 [.agg s.d] [] (RetS siiD fun a => a.1.sm ∧ (a.2.2 = 0 → Ev s.k.lg a.1.k.lg)) := by
  refine dk Tryz.func79 ?_
  have c1 := rkbegin_w s.k hs.1
  (unfold Tryz.f79; refine rn trivial ?_)
  refine rn F ?_
  repeat' (first
    | with_reducible exact ⟨⟩
    | (refine sB F ?_ ?_ <;> intro hZ)
    | (refine vc_S (c1) rfl ?_; rintro ⟨k1, n1, e1⟩ hq; refine rn F ?_))
  all_goals first
    | exact ⟨rfl, rfl, (Sv0, 0, e1), rfl, Sv0_sm, fun h => absurd h (by assumption)⟩
    | exact ⟨rfl, rfl, (⟨k1, s.v⟩, n1, 0), rfl, ⟨hq.1, hs.2⟩, fun _ => by have q := (hq.2 (by dsimp only; omega)).2.2; dsimp only at q; subst q; exact Ev.refl _⟩
    | skip
theorem mkR : ∀ n : Nat, V.mk [.pv (.lit (.int .i64 0)), .pv (.lit (.int .i64 0)), .pv (.lit (.int .i64 0))] n = cells encR (List.replicate n Rw0)
  | 0 => rfl
  | n + 1 => by
    show _ ++ V.mk _ n = _
    rw [mkR n, List.replicate_succ]; rfl
theorem rixnew_w (n : Int) : VCalls prog 77 [.int .i64 n] [] (RetS (fun a : List Rw × Int => .tup [.agg [.pv (.sl (fz encR a.1))], .int .i64 a.2]) fun a => a.1.length ≤ 64) := by
  refine dk Tryz.func77 ?_
  (unfold Tryz.f77; refine rn trivial ?_)
  refine rn F ?_
  repeat' (first
    | with_reducible exact ⟨⟩
    | (refine sG F ?_ ?_ <;> intro hZ)
    | (refine sB F ?_ ?_ <;> intro hZ))
  all_goals first
    | exact ⟨rfl, rfl, ([], 1), rfl, Nat.zero_le _⟩
    | skip
  obtain ⟨m, rfl⟩ : ∃ m : Nat, n = m := ⟨n.toNat, by omega⟩
  have hc : ((0 : Int) ≤ (m : Int) ∧ (m : Int) ≤ (m : Int) ∧ ((24 : Nat) : Int) * (m : Int) ≤ 281474976710656 ∧ (m : Int) ≤ 9223372036854775807) = True := eq_true ⟨by omega, by omega, by omega, by omega⟩
  have hmk := mkR m
  have hlr : (List.replicate m Rw0).length = m := List.length_replicate
  refine rn (And.intro @hc (And.intro @hmk @hlr)) ?_
  exact ⟨rfl, rfl, (List.replicate m Rw0, 0), rfl, by dsimp only; rw [hlr]; omega⟩
end
section
attribute [local go_sem] iteLe
def Lg1 : Lg := ⟨1, [], 0⟩
theorem Lg1_ok : lgB Lg1 = true := by decide
theorem rlnew_v : VCalls prog 7 [] [] (Ret (.agg Lg1.c)) := by
  refine dk Tryz.func7 ?_
  (unfold Tryz.f7; refine rn trivial ?_)
  rfl
theorem plNew_fs (n : Int) : (plNew n).1.fs = [] := by unfold plNew; split <;> rfl
theorem rsflush_w (s : Sv) (hs : s.sm) (n : Int) : VCalls prog 82 [.agg s.d, .int .i64 n] [] (RetS svD (evQ s)) := by
  refine dk Tryz.func82 ?_
  have c1 := rflush_w s.k hs.1 n
  have c2 := rpfind_v s.k.pl (Nat.le_trans hs.1.2.1 (by decide)) n
  have c3 := fun k hk x => rwrite_w s hs.2 k hk x
  have e0 : ∀ e, e ≠ 0 → evQ s (Sv0, e) := fun e h => ⟨Sv0_sm, fun h2 => absurd h2 h⟩
  (unfold Tryz.f82; refine rn trivial ?_)
  refine vc_S c1 rfl ?_
  rintro ⟨k1, x, e⟩ hq
  by_cases he : e = 0
  rotate_left
  · skip
    have F := @he
    refine rn F ?_
    exact ⟨rfl, rfl, (Sv0, e), rfl, e0 _ he⟩
  have q := hq.2 he
  subst he
  rcases findS_cases s.k.pl n with hn | ⟨_, i, hi, hfi, _⟩
  · have := q.2; omega
  rw [hfi] at c2
  have hg := fzF_at s.k.pl.fs i hi
  generalize s.k.pl.fs.getD i Fm0 = f at *
  have F := @hg
  refine rn F ?_
  repeat' (first
    | with_reducible exact ⟨⟩
    | (refine sB F ?_ ?_ <;> intro hZ)
    | refine vp F (c2) ?_
    | (refine vc_S (c3 k1 hq.1 x) rfl ?_; rintro ⟨s2, e2⟩ hq2; refine rn F ?_)
    | (refine vspine (id := 4) [0, 1, 2, 3, 4, 5, 6, 7] [⟨[], [], 8, [0, 1, 2, 3, 4, 5], [9, 10, 11, 12]⟩] (by kernel_rfl) (by kernel_rfl) ?_; refine rn F ?_))
  all_goals first
    | exact ⟨rfl, rfl, (s, 0), rfl, hs, fun _ => Ev.refl _⟩
    | exact ⟨rfl, rfl, (s2, e2), rfl, hq2.1, fun h => q.1.trans (hq2.2 h).1⟩
    | skip
end
end Go.Proofs.YtcbeaefljofgeaaGreat
