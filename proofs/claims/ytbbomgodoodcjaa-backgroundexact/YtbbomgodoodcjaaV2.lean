/-
  V, part 14: contracts at calls that hand over a pointer, that lend slices of the caller's own, that make a block.
-/
import Derived.Test.YtbbomgodoodcjaaV1
import Derived.Carry
namespace Go.V

/-- Values without numbers of blocks, in another heap. -/
theorem RelD.closed {w : World} {β β' : Map} {hp hp' : Heap} {d : DV} {v : Value} (h : RelD w β hp d v) (hn : d.nums (fun _ => false) = true) (him : ∀ b, img β' hp' b → img β hp b) : RelD w β' hp' d v := by
  induction h with
  | pv q v h => exact .pv q v (h.mono (Nat.le_refl _) (fun _ _ _ => rfl) (fun b _ => him b))
  | ptr k off b h hb => simp [DV.nums] at hn
  | own => simp [DV.nums] at hn
  | own0 => simp [DV.nums] at hn
  | ip cs ad val h1 h2 h3 =>
    exact .ip cs ad val h1 (fun j d hd => ⟨(h2 j d hd).1, fun x => (h2 j d hd).2.1 (him _ x), (h2 j d hd).2.2⟩) (fun j d hd => (h3 j d hd).mono (Nat.le_refl _) (fun _ _ _ => rfl) (fun b _ => him b))
  | agg ds vs h _ ih => exact .agg _ vs h (fun i d hd => ih i d hd (DV.nums_go (by simpa [DV.nums] using hn) i d hd))
  | tup ds vs h _ ih => exact .tup _ vs h (fun i d hd => ih i d hd (DV.nums_go (by simpa [DV.nums] using hn) i d hd))
  | fn f ds es vs us h h' _ _ ih ih' =>
    have hr' : DV.nums.go (fun _ => false) ds = true ∧ DV.nums.go (fun _ => false) es = true := by simpa [DV.nums] using hn
    exact .fn f _ _ vs us h h' (fun i d hd => ih i d hd (DV.nums_go hr'.1 i d hd)) (fun i d hd => ih' i d hd (DV.nums_go hr'.2 i d hd))
  | opt c d v _ hf ih => exact .opt c _ v (fun hc => ih hc (by simpa [DV.nums] using hn)) hf
  | any v => exact .any v

/-- A function that may write one block of its caller's, through a pointer. -/
theorem VCalls.ptr1 {P : Program} {g : FuncId} {args : List DV} {hp : Heap} {k : Nat} {B : Blk} {R : DV → Blk → Prop} (hk : hp[k]? = some B) (hl : B.live = true) (hB : DV.nums.go (fun _ => false) B.cells = true)
    (c : VCalls P g (args.map (DV.ren fun _ => 0)) [B] fun r h' => ∃ B', h' = [B'] ∧ B'.live = true ∧ DV.nums.go (fun _ => false) B'.cells = true ∧ r.nums (fun _ => false) = true ∧ R r B')
    (ha : DV.nums.go (fun i => i == k) args = true) : VCalls P g args hp fun r h' => ∃ B', h' = hp.set k B' ∧ B'.live = true ∧ DV.nums.go (fun _ => false) B'.cells = true ∧ R r B' := by
  refine ⟨c.fn, fun w β vs hh hr => ?_⟩
  have hklt : k < hp.length := (List.getElem?_eq_some_iff.1 hk).1
  let βc : Map := ⟨fun i => if i = 0 then β.f k else none, fun b => img β hp b ∧ β.f k ≠ some b⟩
  have livec : ∀ b, live βc [B] b ↔ β.f k = some b := fun b => by
    constructor
    · rintro ⟨i, D, h1, h2, h3⟩
      cases i with
      | zero => exact h3
      | succ i => simp at h1
    · intro h
      exact ⟨0, B, rfl, hl, h⟩
  have livek : ∀ b, β.f k = some b → live β hp b := fun b hb => ⟨k, B, hk, hl, hb⟩
  have himc : ∀ b, img βc [B] b → img β hp b := fun b hb => by
    rcases hb with hb | hb
    · exact hb.1
    · exact .inr (livek b ((livec b).1 hb))
  have himc' : ∀ b, img β hp b → img βc [B] b := fun b hb => by
    by_cases h : β.f k = some b
    · exact .inr ((livec b).2 h)
    · exact .inl ⟨hb, h⟩
  have hhc : HeapRel w βc [B] := by
    refine ⟨fun i D b h1 h2 h3 => ?_, fun i D h1 h2 h3 => ?_, fun i j D D' b h1 h2 _ _ _ _ => ?_, fun i D b h1 h2 h3 => ?_, fun b hb => ?_⟩
    · cases i with
      | zero =>
        simp at h1
        subst h1
        obtain ⟨C, g1, g2, g3⟩ := hh.blk k B b hk hl h3
        exact ⟨C, g1, g2, fun i d hd => ⟨(g3 i d hd).1, (g3 i d hd).2.closed (DV.nums_go hB i d hd) himc⟩⟩
      | succ i => simp at h1
    · cases i with
      | zero => simp at h1; subst h1; exact hh.none k B hk hl h3
      | succ i => simp at h1
    · cases i <;> cases j <;> simp_all
    · cases i with
      | zero => exact fun hX => hX.2 h3
      | succ i => simp at h1
    · rcases hb.1 with hb | hb
      · exact hh.bound b hb
      · exact live_lt hh hb
  have hargs : RelL w βc [B] (args.map (DV.ren fun _ => 0)) vs := by
    refine ⟨by simpa using hr.1, fun i d hd => ?_⟩
    rw [List.getElem?_map] at hd
    cases hx : args[i]? with
    | none => simp [hx] at hd
    | some x =>
      simp [hx] at hd
      subst hd
      exact RelD.ren (p := fun i => i == k) (fun j hj _ => ⟨by simp, by simp at hj; simp [βc, hj]⟩) himc (hr.2 i x hx) (DV.nums_go ha i x hx)
  refine (c.run w βc vs hhc hargs).mono ?_
  rintro e w' ⟨v, r, h', β', rfl, ev, hh', hrel, B', rfl, hl', hB', hrn, hR⟩
  have hf0 : β'.f 0 = β.f k := ev.beta 0 (by simp)
  have hset : (hp.set k B')[k]? = some B' := List.getElem?_set_self hklt
  have lives : ∀ b, live β (hp.set k B') b → live β hp b := by
    rintro b ⟨j, D, h1, h2, h3⟩
    by_cases hj : j = k
    · subst hj; exact livek b h3
    · rw [List.getElem?_set_ne (by omega)] at h1; exact ⟨j, D, h1, h2, h3⟩
  have e : Evo w β hp w' β (hp.set k B') := by
    refine ⟨ev.os, ev.tape, ev.output, ev.size, by simp, fun _ _ => rfl, fun b hb hn => ev.same b hb (fun h => hn (livek b ((livec b).1 h))), ev.shape, fun b _ h => lives b h, rfl⟩
  have him' : ∀ b, img β (hp.set k B') b → img β' [B'] b := fun b hb => by
    by_cases h : β.f k = some b
    · exact .inr ⟨0, B', rfl, hl', hf0.trans h⟩
    · refine .inl ?_
      rw [ev.X]
      exact ⟨hb.imp id (lives b), h⟩
  refine ⟨v, r, hp.set k B', β, rfl, e, ?_, hrel.closed hrn him', B', rfl, hl', hB', hR⟩
  refine ⟨fun j D b h1 h2 h3 => ?_, fun j D h1 h2 h3 => ?_, fun i j D D' b h1 h2 h3 h4 h5 h6 => ?_, fun j D b h1 h2 h3 => ?_, fun b hb => Nat.lt_of_lt_of_le (hh.bound b hb) ev.size⟩
  · by_cases hj : j = k
    · subst hj
      rw [hset] at h1
      simp at h1
      subst h1
      obtain ⟨C, g1, g2, g3⟩ := hh'.blk 0 B' b rfl hl' (hf0.trans h3)
      exact ⟨C, g1, g2, fun i d hd => ⟨(g3 i d hd).1, (g3 i d hd).2.closed (DV.nums_go hB' i d hd) him'⟩⟩
    · rw [List.getElem?_set_ne (by omega)] at h1
      obtain ⟨C, g1, g2, g3⟩ := hh.blk j D b h1 h2 h3
      have hne : β.f k ≠ some b := fun h => hj (hh.inj j k D B b h1 hk h2 hl h3 h)
      have hsame := ev.same b (Array.getElem?_eq_some_iff.1 g1).1 (fun h => hne ((livec b).1 h))
      exact ⟨C, by rw [hsame]; exact g1, g2, fun i d hd => ⟨(g3 i d hd).1, (g3 i d hd).2.mono e⟩⟩
  · by_cases hj : j = k
    · subst hj
      rw [hset] at h1
      simp at h1
      subst h1
      exact hh'.none 0 B' rfl hl' (hf0.trans h3)
    · rw [List.getElem?_set_ne (by omega)] at h1
      exact hh.none j D h1 h2 h3
  · have back : ∀ {i : Nat} {D : Blk}, (hp.set k B')[i]? = some D → D.live = true → ∃ D0, hp[i]? = some D0 ∧ D0.live = true := fun {i D} h1 h2 => by
      by_cases hi : i = k
      · subst hi; exact ⟨B, hk, hl⟩
      · rw [List.getElem?_set_ne (by omega)] at h1; exact ⟨D, h1, h2⟩
    obtain ⟨D0, q1, q2⟩ := back h1 h3
    obtain ⟨D1, q3, q4⟩ := back h2 h4
    exact hh.inj i j D0 D1 b q1 q3 q2 q4 h5 h6
  · by_cases hj : j = k
    · subst hj; exact hh.avoid j B b hk hl h3
    · rw [List.getElem?_set_ne (by omega)] at h1; exact hh.avoid j D b h1 h2 h3

/-- A result without slices. -/
def DV.flat : DV → Bool
  | .pv (.lit _) | .pv (.str _) => true
  | .agg cs | .tup cs => go cs
  | _ => false
where
  go : List DV → Bool
    | [] => true
    | d :: r => d.flat && go r

theorem DV.flat_go {ds : List DV} (h : DV.flat.go ds = true) : ∀ (i : Nat) (d : DV), ds[i]? = some d → d.flat = true := by
  induction ds with
  | nil => intro i d h; simp at h
  | cons x r ih =>
    simp only [DV.flat.go, Bool.and_eq_true] at h
    intro i d hd
    cases i with
    | zero => simp at hd; subst hd; exact h.1
    | succ i => exact ih h.2 i d (by simpa using hd)

theorem RelD.flat {w w' : World} {β β' : Map} {hp hp' : Heap} {d : DV} {v : Value} (h : RelD w β hp d v) (hf : d.flat = true) : RelD w' β' hp' d v := by
  induction h with
  | pv q v h => cases h with
    | lit _ h => exact .pv _ _ (.lit _ h)
    | str l => exact .pv _ _ (.str l)
    | _ => simp [DV.flat] at hf
  | agg ds vs h _ ih => exact .agg _ vs h (fun i d hd => ih i d hd (DV.flat_go (by simpa [DV.flat] using hf) i d hd))
  | tup ds vs h _ ih => exact .tup _ vs h (fun i d hd => ih i d hd (DV.flat_go (by simpa [DV.flat] using hf) i d hd))
  | _ => simp [DV.flat] at hf

/-- The caller lends slices of its own for the call's time. -/
theorem VCalls.lend {P : Program} {g : FuncId} {args args0 : List DV} {hp : Heap} {R : DV → Prop} (ha : allSome (args.map (frz 0 hp)) = some args0) (c : VCalls P g args0 [] fun r h' => h' = [] ∧ r.flat = true ∧ R r) :
    VCalls P g args hp fun r h' => h' = hp ∧ R r := by
  refine ⟨c.fn, fun w β vs hh hr => ?_⟩
  let βc : Map := ⟨fun _ => none, β.X⟩
  have himc : ∀ b, img βc [] b → β.X b := fun b hb => by
    rcases hb with hb | ⟨i, D, h1, _⟩
    · exact hb
    · simp at h1
  have hlv : Leaves w β hp 0 (img βc []) := ⟨fun b hb => .inl (himc b hb), fun k B b _ h1 h2 h3 hb => hh.avoid k B b h1 h2 h3 (himc b hb)⟩
  have hhc : HeapRel w βc [] := ⟨by simp, by simp, by simp, by simp, hh.bound⟩
  obtain ⟨a1, a2⟩ := allSome_get ha
  have hargs : RelL w βc [] args0 vs := by
    refine ⟨by rw [a1]; simpa using hr.1, fun i d hd => ?_⟩
    have h3 := a2 i d hd
    rw [List.getElem?_map] at h3
    cases hx : args[i]? with
    | none => simp [hx] at h3
    | some x =>
      simp [hx] at h3
      exact frz_sound (β' := βc) (hp' := []) hh hlv (fun k hk => absurd hk (Nat.not_lt_zero _)) (Nat.zero_le _) (hr.2 i x hx) h3
  refine (c.run w βc vs hhc hargs).mono ?_
  rintro e w' ⟨v, r, h', β', rfl, ev, hh', hrel, rfl, hf, hR⟩
  have heap_same : ∀ b, b < w.heap.size → w'.heap[b]? = w.heap[b]? := fun b hb => ev.same b hb (by rintro ⟨k, B, h1, _⟩; simp at h1)
  have e : Evo w β hp w' β hp := ⟨ev.os, ev.tape, ev.output, ev.size, Nat.le_refl _, fun _ _ => rfl, fun b hb _ => heap_same b hb, fun b C T m h => ⟨C, by rw [heap_same b (Array.getElem?_eq_some_iff.1 h).1]; exact h, rfl⟩, fun _ _ h => h, rfl⟩
  refine ⟨v, r, hp, β, rfl, e, ?_, hrel.flat hf, rfl, hR⟩
  refine ⟨fun k B b h1 h2 h3 => ?_, hh.none, hh.inj, hh.avoid, fun b hb => Nat.lt_of_lt_of_le (hh.bound b hb) ev.size⟩
  obtain ⟨C, g1, g2, g3⟩ := hh.blk k B b h1 h2 h3
  exact ⟨C, by rw [heap_same b (Array.getElem?_eq_some_iff.1 g1).1]; exact g1, g2, fun i d hd => ⟨(g3 i d hd).1, (g3 i d hd).2.mono e⟩⟩

/-- A function that makes one block, with plain cells, and hands back a pointer to it. -/
theorem VCalls.new {P : Program} {g : FuncId} {args : List DV} {hp : Heap} {R : Blk → Prop} (c : VCalls P g args [] fun r h' => ∃ B, h' = [B] ∧ r = .ptr 0 0 ∧ B.live = true ∧ DV.nums.go (fun _ => false) B.cells = true ∧ R B)
    (ha : DV.nums.go (fun _ => false) args = true) : VCalls P g args hp fun r h' => ∃ B, h' = hp ++ [B] ∧ r = .ptr hp.length 0 ∧ B.live = true ∧ DV.nums.go (fun _ => false) B.cells = true ∧ R B := by
  refine ⟨c.fn, fun w β vs hh hr => ?_⟩
  let βc : Map := ⟨fun _ => none, img β hp⟩
  have himc : ∀ b, img βc [] b → img β hp b := fun b hb => by
    rcases hb with hb | ⟨k, B, h1, _⟩
    · exact hb
    · simp at h1
  have hhc : HeapRel w βc [] := ⟨by simp, by simp, by simp, by simp, fun b hb => by
    rcases hb with hb | hb
    · exact hh.bound b hb
    · exact live_lt hh hb⟩
  refine (c.run w βc vs hhc ⟨hr.1, fun i d hd => (hr.2 i d hd).closed (DV.nums_go ha i d hd) himc⟩).mono ?_
  rintro e w' ⟨v, r, h', β', rfl, ev, hh', hrel, B, rfl, rfl, hl, hB, hR⟩
  have heap_same : ∀ b, b < w.heap.size → w'.heap[b]? = w.heap[b]? := fun b hb => ev.same b hb (by rintro ⟨k, B, h1, _⟩; simp at h1)
  cases hrel with
  | ptr _ _ b0 _ hb0 =>
    obtain ⟨C0, c1, c2, c3⟩ := hh'.blk 0 B b0 rfl hl hb0
    have hnew : ¬ b0 < w.heap.size := fun hlt => by
      have := ev.im b0 hlt ⟨0, B, rfl, hl, hb0⟩
      obtain ⟨k, D, h1, _⟩ := this
      simp at h1
    have e : Evo w β hp w' (ext β hp.length (some b0)) (hp ++ [B]) := by
      refine ⟨ev.os, ev.tape, ev.output, ev.size, by simp, fun k hk => ext_lt hk, fun b hb _ => heap_same b hb, fun b C T m h => ⟨C, by rw [heap_same b (Array.getElem?_eq_some_iff.1 h).1]; exact h, rfl⟩, fun b hb h => ?_, rfl⟩
      rcases (live_push hl).1 h with h | h
      · exact h
      · omega
    have him' : ∀ b, img β hp b → img β' [B] b := fun b hb => .inl (by rw [ev.X]; exact hb)
    have him2 : ∀ b, img (ext β hp.length (some b0)) (hp ++ [B]) b → img β' [B] b := fun b hb => by
      rcases hb with hb | hb
      · exact him' b (.inl hb)
      · rcases (live_push hl).1 hb with hb | hb
        · exact him' b (.inr hb)
        · rw [hb]; exact .inr ⟨0, B, rfl, hl, hb0⟩
    refine ⟨_, .ptr hp.length 0, hp ++ [B], ext β hp.length (some b0), rfl, e, ?_, .ptr _ _ b0 (by simp) (by simp [ext]), B, rfl, rfl, hl, hB, hR⟩
    have lt_of : ∀ {k : Nat} {D : Blk}, (hp ++ [B])[k]? = some D → (k < hp.length ∧ hp[k]? = some D ∧ (ext β hp.length (some b0)).f k = β.f k) ∨ (k = hp.length ∧ D = B ∧ (ext β hp.length (some b0)).f k = some b0) := fun {k D} h => by
      rcases Nat.lt_trichotomy k hp.length with hlt | heq | hgt
      · rw [List.getElem?_append_left hlt] at h
        exact .inl ⟨hlt, h, ext_lt hlt⟩
      · subst heq
        simp at h
        exact .inr ⟨rfl, h.symm, by simp [ext]⟩
      · rw [List.getElem?_append_right (by omega), List.getElem?_eq_none (by simp; omega)] at h
        simp at h
    refine ⟨fun k D b hk hD hb => ?_, fun k D hk hD hb => ?_, fun j k D D' b hj hk hD hD' h1 h2 => ?_, fun k D b hk hD hb => ?_, fun b hb => Nat.lt_of_lt_of_le (hh.bound b hb) ev.size⟩
    · rcases lt_of hk with ⟨_, hk', he⟩ | ⟨rfl, rfl, he⟩
      · rw [he] at hb
        obtain ⟨C, g1, g2, g3⟩ := hh.blk k D b hk' hD hb
        exact ⟨C, by rw [heap_same b (Array.getElem?_eq_some_iff.1 g1).1]; exact g1, g2, fun i d hd => ⟨(g3 i d hd).1, (g3 i d hd).2.mono e⟩⟩
      · rw [he] at hb
        simp at hb
        subst hb
        exact ⟨C0, c1, c2, fun i d hd => ⟨(c3 i d hd).1, (c3 i d hd).2.closed (DV.nums_go hB i d hd) him2⟩⟩
    · rcases lt_of hk with ⟨_, hk', he⟩ | ⟨rfl, rfl, he⟩
      · exact hh.none k D hk' hD (by rw [← he]; exact hb)
      · rw [he] at hb; simp at hb
    · rcases lt_of hj with ⟨_, hj', hje⟩ | ⟨rfl, rfl, hje⟩ <;> rcases lt_of hk with ⟨_, hk', hke⟩ | ⟨rfl, rfl, hke⟩
      · exact hh.inj j k D D' b hj' hk' hD hD' (by rw [← hje]; exact h1) (by rw [← hke]; exact h2)
      · exfalso
        rw [hke] at h2
        simp at h2
        exact hnew (h2 ▸ live_lt hh ⟨j, D, hj', hD, by rw [← hje]; exact h1⟩)
      · exfalso
        rw [hje] at h1
        simp at h1
        exact hnew (h1 ▸ live_lt hh ⟨k, D', hk', hD', by rw [← hke]; exact h2⟩)
      · rfl
    · rcases lt_of hk with ⟨_, hk', he⟩ | ⟨rfl, rfl, he⟩
      · exact hh.avoid k D b hk' hD (by rw [← he]; exact hb)
      · rw [he] at hb
        simp at hb
        intro hX
        exact hnew (hb ▸ hh.bound b hX)

end Go.V

/-
  V, part 15: the equations by which the simplifier reckons V's code (written by geneq.py). Nothing is unfolded that is not named here.
-/
namespace Go.V

def vpick (c a b : DV) (hp : Heap) : Option (DV × Heap) :=
  match c with
  | .pv (.lit (.bool t)) => some (pickV t (strip t a) (strip (!t) b), hp)
  | _ => none
def vnil (x : DV) (hp : Heap) : Option (DV × Heap) :=
  match x with
  | .ptr k off => some (.ptr k off, hp)
  | .ip cs => some (.ip cs, hp)
  | _ => none
def ptrNo (x : DV) : List Nat := match x with | .ptr k _ => [k] | _ => []
def ownNo (x : DV) : List Nat := match x with | .own k _ _ _ => [k] | _ => []
def vcal (f : DV) (args : List DV) : Option (FuncId × List DV) :=
  match f with
  | .fn (.func g) first cap => some (g, first ++ args ++ cap)
  | _ => none
def vgof (d : Option DV) (want : Bool) : Option Bool :=
  match d with
  | some (.pv (.lit (.bool b))) => some (b == want)
  | some (.opt g (.pv (.lit (.bool b)))) => some (g && (b == want))
  | some (.tup []) => some false
  | _ => none
def evG (G : Bool) (S : St) (x : Operand) : DV := strip G (S.ev x)
def vcg (P : Program) (gd : Option (Nat × Bool)) (g : FuncId) (args : List DV) (hp : Heap) (G : Bool) (K : DV → Heap → Prop) : Prop := match gd with | none => VCalls P g args hp K | some _ => VCallG P g args hp G K
def vrunK (P : Program) (all : List Oper) (o : Oper) (r : List Oper) (K : St → Prop) (S : St) (d : DV) (hp : Heap) : Prop := vrun P all r K ((S.at hp).put o.dst d)
def vrun3 (P : Program) (all : List Oper) (o : Oper) (r : List Oper) (K : St → Prop) (S : St) (G : Bool) (x : Option (DV × Heap)) : Prop :=
  match x with
  | some (d, hp) => vrun P all r K ((S.at (bif G then hp else S.hp)).put o.dst (optV o.guard G d))
  | none => G = false ∧ vrun P all r K (S.put o.dst (.tup []))
def vrun2 (P : Program) (all : List Oper) (o : Oper) (r : List Oper) (K : St → Prop) (S : St) (G : Bool) (c : Option (FuncId × List DV)) : Prop :=
  match c with
  | some (g, args) => vcg P o.guard g args S.hp G (vrunK P all o r K S)
  | none => vrun3 P all o r K S G (vop P (evG G S) S.hp o.op)
def vrun1 (P : Program) (all : List Oper) (o : Oper) (r : List Oper) (K : St → Prop) (S : St) (g : Option Bool) : Prop :=
  match g with
  | none => False
  | some G => vrun2 P all o r K S G (vcallee (evG G S) o.op)
/-- A call in a region that draws. -/
def vdc (P : Program) (g : FuncId) (args : List DV) (G : Bool) (K : DV → Prop) : Prop := ∃ d, (G = true → VCalls P g args [] fun r h => h = [] ∧ r = d) ∧ DV.nums.go (fun _ => false) args = true ∧ d.nums (fun _ => false) = true ∧ K d
def vdrK (P : Program) (all : List Oper) (o : Oper) (r : List Oper) (fs : List (List Nat × Bool)) (K : St → Prop) (S : St) (G : Bool) (d : DV) : Prop := vdr P all r (fs ++ [([], false)]) K (S.put o.dst (optV o.guard G d))
def vdr3 (P : Program) (all : List Oper) (o : Oper) (r : List Oper) (fs : List (List Nat × Bool)) (K : St → Prop) (S : St) (G : Bool) (f : List Nat × Bool) (x : Option (DV × Heap)) : Prop :=
  match x with
  | some (d, hp) => okKind o.op = true ∧ okClash o.after f 0 fs = true ∧ vdr P all r (fs ++ [f]) K ((S.at (bif G then hp else S.hp)).put o.dst (optV o.guard G d))
  | none => G = false ∧ vdr P all r (fs ++ [([], false)]) K (S.put o.dst (.tup []))
def vdr2 (P : Program) (all : List Oper) (o : Oper) (r : List Oper) (fs : List (List Nat × Bool)) (K : St → Prop) (S : St) (G : Bool) (c : Option (FuncId × List DV)) : Prop :=
  match c with
  | some (g, args) => vdc P g args G (vdrK P all o r fs K S G)
  | none => vdr3 P all o r fs K S G (foot (evG G S) o.op) (vop P (evG G S) S.hp o.op)
def vdr1 (P : Program) (all : List Oper) (o : Oper) (r : List Oper) (fs : List (List Nat × Bool)) (K : St → Prop) (S : St) (g : Option Bool) : Prop :=
  match g with
  | none => False
  | some G => vdr2 P all o r fs K S G (vcallee (evG G S) o.op)
def vbr (P : Program) (a b : Code) (Q : Exit → St → Prop) (S : St) (t : Bool) : Prop := vcond t (vcode P a Q S) (vcode P b Q S)
def vtest (P : Program) (a b : Code) (Q : Exit → St → Prop) (S : St) (c : DV) : Prop := match c with | .pv (.lit (.bool t)) => vbr P a b Q S t | _ => False
def vfin (n : Nat) (hp : Heap) (R : DV → Heap → Prop) (r : Option DV) : Prop := match r with | some d => VEnd n hp d R | none => False
def vfinK (hp : Heap) (R : DV → Heap → Prop) (r : Option DV) : Prop := match r with | some d => R d hp | none => False
def vfin2 (R : DV → Heap → Prop) (r : Option DV) (h : Option Heap) : Prop := match r, h with | some d, some hp => R d hp | _, _ => False
def frzT (n : Nat) (hp : Heap) (d : DV) : Option DV := match d with | .agg es => (allSome (es.map (frz1 n hp))).map .agg | d => frz1 n hp d
def vld (b : Option (List DV)) (t : Option (Option Nat)) (off : Nat) : Option DV :=
  match b, t with
  | some cs, some none => cs[off]?
  | some cs, some (some n) => if off + n ≤ cs.length then some (.agg ((cs.drop off).take n)) else none
  | _, _ => none
def vldp (cs : List PV) (t : Option (Option Nat)) : Option DV :=
  match t with
  | some none => cs[0]?.map .pv
  | some (some n) => if n ≤ cs.length then some (.agg ((cs.take n).map .pv)) else none
  | none => none
def vst (hp : Heap) (k : Nat) (b : Option (List DV)) (t : Option (Option Nat)) (off : Nat) (d : DV) : Option Heap :=
  match b, t with
  | some cs, some none => if off < cs.length ∧ d.one = true then some (setBlk hp k (cs.set off d)) else none
  | some cs, some (some n) =>
    match d with
    | .agg ds => if off + n ≤ cs.length ∧ ds.length = n ∧ allOne ds = true then some (setBlk hp k (splice cs off ds)) else none
    | _ => none
  | _, _ => none

def vlook (b : Bool) (d : DV) (r : List (Nat × DV)) (t : Nat) : DV := bif b then d else V.look r t
def vstr (b g : Bool) (d : DV) : DV := bif b then d else .opt g d
/-- What kind of type it is. -/
inductive VK | int (k : IntKind) | str | arr (n : Nat) | sl (e : TypeId) | bool | other
def vkind (P : Program) (T : TypeId) : VK :=
  match P.underlying T with
  | some (.int k) => .int k
  | some .string => .str
  | some (.array n _) => .arr n
  | some (.slice e) => .sl e
  | some .bool => .bool
  | _ => .other
def vsla (e : Option (Option Nat × TypeId × Nat)) (b : Option (List DV)) (k off : Nat) : Option DV :=
  match e, b with
  | some (some n, _, sz), some cs => if off + n * sz ≤ cs.length ∧ n ≤ 9223372036854775807 then some (.own k sz off n) else none
  | _, _ => none
def frzH1 (ty : TypeId) (x : Option (List DV)) : Option Heap := match x with | some cs => some [⟨ty, true, cs⟩] | none => none
def vslk (e : Option (Option Nat × TypeId × Nat)) (xs : List (List PV)) (a b : Nat) : Option DV :=
  match e with
  | some (none, _, sz) => if a ≤ b ∧ b ≤ xs.length ∧ (xs = [] ∨ (xs[0]?.map List.length) = some sz) then some (.pv (.sl ((xs.take b).drop a))) else none
  | _ => none
def vsls (u : VK) (xs : List UInt8) (a b : Nat) : Option DV := match u with | .str => if a ≤ b ∧ b ≤ xs.length then some (.pv (.str ((xs.take b).drop a))) else none | _ => none
def vbb (op : BinOp) (u : VK) (a b : Bool) : Option DV :=
  match op, u with
  | .eql, .bool => some (.bool (a == b))
  | .neq, .bool => some (.bool (!(a == b)))
  | _, _ => none
def vba (op : BinOp) (t : Option (Option Nat)) (l : Option (List (Nat × Nat))) (g : Bool) (xs ys : List DV) : Option DV :=
  match t, l with
  | some (some _), some l =>
    if g then none else
    match op, allEq xs ys l with
    | .eql, some b => some (.bool b)
    | .neq, some b => some (.bool (!b))
    | _, _ => none
  | _, _ => none
def vfap (f : Option (TypeId × Nat × Nat)) (k off : Nat) : Option DV := match f with | some (_, o, s) => if s = 0 then none else some (.ptr k (off + o)) | none => none
def vfai (f : Option (TypeId × Nat × Nat)) (cs : List PV) : Option DV := match f with | some (_, o, s) => if s = 0 then none else some (.ip (cs.drop o)) | none => none
def vfv (P : Program) (cs : List DV) (f : Option (TypeId × Nat × Nat)) : Option DV := match f with | some (t, o, _) => vpart P t cs o | none => none
def vpt (t : Option (Option Nat)) (cs : List DV) (off : Nat) : Option DV :=
  match t with
  | some none => cs[off]?
  | some (some n) => if off + n ≤ cs.length then some (.agg ((cs.drop off).take n)) else none
  | none => none
def vias (e : Option (Option Nat × TypeId × Nat)) (c : Option (List PV)) (i : Int) : Option DV :=
  match e, c with
  | some (none, _, sz), some c => if 0 ≤ i ∧ c.length = sz ∧ 0 < sz then some (.ip c) else none
  | _, _ => none
def viao (e : Option (Option Nat × TypeId × Nat)) (b sz' off len : Nat) (i : Int) : Option DV :=
  match e with
  | some (none, _, sz) => if sz' = sz ∧ 0 ≤ i ∧ i < len then some (.ptr b (off + i.toNat * sz)) else none
  | _ => none
def viap (e : Option (Option Nat × TypeId × Nat)) (b off : Nat) (i : Int) : Option DV :=
  match e with
  | some (some n, _, sz) => if 0 ≤ i ∧ i < n then some (.ptr b (off + i.toNat * sz)) else none
  | _ => none
def viai (e : Option (Option Nat × TypeId × Nat)) (cs : List PV) (i : Int) : Option DV :=
  match e with
  | some (some n, _, sz) => if 0 ≤ i ∧ i < n then some (.ip (cs.drop (i.toNat * sz))) else none
  | _ => none
def viva (P : Program) (e : Option (Option Nat × TypeId × Nat)) (cs : List DV) (i : Int) : Option DV :=
  match e with
  | some (some n, t, sz) => if 0 ≤ i ∧ i < n then vpart P t cs (i.toNat * sz) else none
  | _ => none
def vivs (u : VK) (b : Option UInt8) (i : Int) : Option DV :=
  match u, b with
  | .str, some b => if 0 ≤ i then some (.pv (.lit (.int .u8 b.toNat))) else none
  | _, _ => none
def vlk (u : VK) (d : DV) : Option DV := match u with | .sl _ => some d | .arr n => some (.int .i64 n) | _ => none
def vls (u : VK) (l : List UInt8) : Option DV := match u with | .str => some (.int .i64 l.length) | .arr n => some (.int .i64 n) | _ => none
def vci (s t : VK) (n : Int) (hp : Heap) : Option (DV × Heap) := match s, t with | .int _, .int k => some (.int k (k.wrap n), hp) | _, _ => none
def val1 (hp : Heap) (T : TypeId) (z : Option (List DV)) : Option (DV × Heap) := match z with | some cs => if allOne cs = true then some (.ptr hp.length 0, hp ++ [⟨T, true, cs⟩]) else none | none => none

/-- A branch whose test is not known. -/
theorem vbr_split {P : Program} {a b : Code} {Q : Exit → St → Prop} {S : St} {t : Bool} (h : t = true → vcode P a Q S) (h' : t = false → vcode P b Q S) : vbr P a b Q S t := ⟨h, h'⟩

theorem vop_move {P : Program} {ev : Operand → DV} {hp : Heap} {x : Operand} : vop P ev hp (.move x) = some (ev x, hp) := rfl
theorem vcallee_move {ev : Operand → DV} {x : Operand} : vcallee ev (.move x) = none := rfl
theorem okKind_move {x : Operand} : okKind (.move x) = true := rfl
theorem foot_move {ev : Operand → DV} {x : Operand} : foot ev (.move x) = ([], false) := rfl
theorem vop_assign {P : Program} {ev : Operand → DV} {hp : Heap} {x : Operand} : vop P ev hp (.assign x) = some (ev x, hp) := rfl
theorem vcallee_assign {ev : Operand → DV} {x : Operand} : vcallee ev (.assign x) = none := rfl
theorem okKind_assign {x : Operand} : okKind (.assign x) = true := rfl
theorem foot_assign {ev : Operand → DV} {x : Operand} : foot ev (.assign x) = ([], false) := rfl
theorem vop_pick {P : Program} {ev : Operand → DV} {hp : Heap} {c : Operand} {a : Operand} {b : Operand} : vop P ev hp (.pick c a b) = vpick (ev c) (ev a) (ev b) hp := rfl
theorem vcallee_pick {ev : Operand → DV} {c : Operand} {a : Operand} {b : Operand} : vcallee ev (.pick c a b) = none := rfl
theorem okKind_pick {c : Operand} {a : Operand} {b : Operand} : okKind (.pick c a b) = true := rfl
theorem foot_pick {ev : Operand → DV} {c : Operand} {a : Operand} {b : Operand} : foot ev (.pick c a b) = ([], false) := rfl
theorem vop_alloc {P : Program} {ev : Operand → DV} {hp : Heap} {T : TypeId} : vop P ev hp (.alloc T) = valloc P hp T := rfl
theorem vcallee_alloc {ev : Operand → DV} {T : TypeId} : vcallee ev (.alloc T) = none := rfl
theorem okKind_alloc {T : TypeId} : okKind (.alloc T) = false := rfl
theorem foot_alloc {ev : Operand → DV} {T : TypeId} : foot ev (.alloc T) = ([], false) := rfl
theorem vop_box {P : Program} {ev : Operand → DV} {hp : Heap} {T : TypeId} {x : Operand} : vop P ev hp (.box T x) = vbox hp T (ev x) := rfl
theorem vcallee_box {ev : Operand → DV} {T : TypeId} {x : Operand} : vcallee ev (.box T x) = none := rfl
theorem okKind_box {T : TypeId} {x : Operand} : okKind (.box T x) = false := rfl
theorem foot_box {ev : Operand → DV} {T : TypeId} {x : Operand} : foot ev (.box T x) = ([], false) := rfl
theorem vop_build {P : Program} {ev : Operand → DV} {hp : Heap} {T : TypeId} {ps : Array (Nat × Operand)} : vop P ev hp (.build T ps) = (vbuild P T (V.parts ev ps)).map fun d => (d, hp) := rfl
theorem vcallee_build {ev : Operand → DV} {T : TypeId} {ps : Array (Nat × Operand)} : vcallee ev (.build T ps) = none := rfl
theorem okKind_build {T : TypeId} {ps : Array (Nat × Operand)} : okKind (.build T ps) = true := rfl
theorem foot_build {ev : Operand → DV} {T : TypeId} {ps : Array (Nat × Operand)} : foot ev (.build T ps) = ([], false) := rfl
theorem vop_buildSlice {P : Program} {ev : Operand → DV} {hp : Heap} {T : TypeId} {n : Nat} {ps : Array (Nat × Operand)} : vop P ev hp (.buildSlice T n ps) = vbuildSlice P hp T n (V.parts ev ps) := rfl
theorem vcallee_buildSlice {ev : Operand → DV} {T : TypeId} {n : Nat} {ps : Array (Nat × Operand)} : vcallee ev (.buildSlice T n ps) = none := rfl
theorem okKind_buildSlice {T : TypeId} {n : Nat} {ps : Array (Nat × Operand)} : okKind (.buildSlice T n ps) = false := rfl
theorem foot_buildSlice {ev : Operand → DV} {T : TypeId} {n : Nat} {ps : Array (Nat × Operand)} : foot ev (.buildSlice T n ps) = ([], false) := rfl
theorem vop_load {P : Program} {ev : Operand → DV} {hp : Heap} {T : TypeId} {a : Operand} : vop P ev hp (.load T a) = (vload P hp T (ev a)).map fun d => (d, hp) := rfl
theorem vcallee_load {ev : Operand → DV} {T : TypeId} {a : Operand} : vcallee ev (.load T a) = none := rfl
theorem okKind_load {T : TypeId} {a : Operand} : okKind (.load T a) = true := rfl
theorem vop_store {P : Program} {ev : Operand → DV} {hp : Heap} {T : TypeId} {a : Operand} {x : Operand} : vop P ev hp (.store T a x) = (vstore P hp T (ev a) (ev x)).map fun h => (.tup [], h) := rfl
theorem vcallee_store {ev : Operand → DV} {T : TypeId} {a : Operand} {x : Operand} : vcallee ev (.store T a x) = none := rfl
theorem okKind_store {T : TypeId} {a : Operand} {x : Operand} : okKind (.store T a x) = true := rfl
theorem vop_nilCheck {P : Program} {ev : Operand → DV} {hp : Heap} {x : Operand} : vop P ev hp (.nilCheck x) = vnil (ev x) hp := rfl
theorem vcallee_nilCheck {ev : Operand → DV} {x : Operand} : vcallee ev (.nilCheck x) = none := rfl
theorem okKind_nilCheck {x : Operand} : okKind (.nilCheck x) = true := rfl
theorem foot_nilCheck {ev : Operand → DV} {x : Operand} : foot ev (.nilCheck x) = ([], false) := rfl
theorem vop_binOp {P : Program} {ev : Operand → DV} {hp : Heap} {op : BinOp} {T : TypeId} {x : Operand} {y : Operand} {yT : TypeId} : vop P ev hp (.binOp op T x y yT) = (vbin P op T (ev x) (ev y)).map fun d => (d, hp) := rfl
theorem vcallee_binOp {ev : Operand → DV} {op : BinOp} {T : TypeId} {x : Operand} {y : Operand} {yT : TypeId} : vcallee ev (.binOp op T x y yT) = none := rfl
theorem okKind_binOp {op : BinOp} {T : TypeId} {x : Operand} {y : Operand} {yT : TypeId} : okKind (.binOp op T x y yT) = true := rfl
theorem foot_binOp {ev : Operand → DV} {op : BinOp} {T : TypeId} {x : Operand} {y : Operand} {yT : TypeId} : foot ev (.binOp op T x y yT) = ([], false) := rfl
theorem vop_unOp {P : Program} {ev : Operand → DV} {hp : Heap} {op : UnOp} {T : TypeId} {x : Operand} : vop P ev hp (.unOp op T x) = (vun op (ev x)).map fun d => (d, hp) := rfl
theorem vcallee_unOp {ev : Operand → DV} {op : UnOp} {T : TypeId} {x : Operand} : vcallee ev (.unOp op T x) = none := rfl
theorem okKind_unOp {op : UnOp} {T : TypeId} {x : Operand} : okKind (.unOp op T x) = true := rfl
theorem foot_unOp {ev : Operand → DV} {op : UnOp} {T : TypeId} {x : Operand} : foot ev (.unOp op T x) = ([], false) := rfl
theorem vop_convert {P : Program} {ev : Operand → DV} {hp : Heap} {S : TypeId} {T : TypeId} {x : Operand} : vop P ev hp (.convert S T x) = vconvert P hp S T (ev x) := rfl
theorem vcallee_convert {ev : Operand → DV} {S : TypeId} {T : TypeId} {x : Operand} : vcallee ev (.convert S T x) = none := rfl
theorem okKind_convert {S : TypeId} {T : TypeId} {x : Operand} : okKind (.convert S T x) = true := rfl
theorem vop_makeFunc {P : Program} {ev : Operand → DV} {hp : Heap} {f : Fn} {first : Array Operand} {cap : Array Operand} : vop P ev hp (.makeFunc f first cap) = some (.fn f (first.toList.map ev) (cap.toList.map ev), hp) := rfl
theorem vcallee_makeFunc {ev : Operand → DV} {f : Fn} {first : Array Operand} {cap : Array Operand} : vcallee ev (.makeFunc f first cap) = none := rfl
theorem okKind_makeFunc {f : Fn} {first : Array Operand} {cap : Array Operand} : okKind (.makeFunc f first cap) = true := rfl
theorem foot_makeFunc {ev : Operand → DV} {f : Fn} {first : Array Operand} {cap : Array Operand} : foot ev (.makeFunc f first cap) = ([], false) := rfl
theorem vop_makeSlice {P : Program} {ev : Operand → DV} {hp : Heap} {T : TypeId} {l : Operand} {c : Operand} : vop P ev hp (.makeSlice T l c) = vmake P hp T (ev l) (ev c) := rfl
theorem vcallee_makeSlice {ev : Operand → DV} {T : TypeId} {l : Operand} {c : Operand} : vcallee ev (.makeSlice T l c) = none := rfl
theorem okKind_makeSlice {T : TypeId} {l : Operand} {c : Operand} : okKind (.makeSlice T l c) = false := rfl
theorem foot_makeSlice {ev : Operand → DV} {T : TypeId} {l : Operand} {c : Operand} : foot ev (.makeSlice T l c) = ([], false) := rfl
theorem vop_slice {P : Program} {ev : Operand → DV} {hp : Heap} {T : TypeId} {x : Operand} {lo : Option Operand} {hi : Option Operand} {mx : Option Operand} : vop P ev hp (.slice T x lo hi mx) = (vslice2 P hp T (ev x) (lo.map ev) (hi.map ev) (mx.map ev)).map fun d => (d, hp) := rfl
theorem vcallee_slice {ev : Operand → DV} {T : TypeId} {x : Operand} {lo : Option Operand} {hi : Option Operand} {mx : Option Operand} : vcallee ev (.slice T x lo hi mx) = none := rfl
theorem okKind_slice {T : TypeId} {x : Operand} {lo : Option Operand} {hi : Option Operand} {mx : Option Operand} : okKind (.slice T x lo hi mx) = true := rfl
theorem vop_fieldAddr {P : Program} {ev : Operand → DV} {hp : Heap} {T : TypeId} {x : Operand} {f : Nat} : vop P ev hp (.fieldAddr T x f) = (vfieldAddr P T f (ev x)).map fun d => (d, hp) := rfl
theorem vcallee_fieldAddr {ev : Operand → DV} {T : TypeId} {x : Operand} {f : Nat} : vcallee ev (.fieldAddr T x f) = none := rfl
theorem okKind_fieldAddr {T : TypeId} {x : Operand} {f : Nat} : okKind (.fieldAddr T x f) = true := rfl
theorem foot_fieldAddr {ev : Operand → DV} {T : TypeId} {x : Operand} {f : Nat} : foot ev (.fieldAddr T x f) = ([], false) := rfl
theorem vop_field {P : Program} {ev : Operand → DV} {hp : Heap} {T : TypeId} {x : Operand} {f : Nat} : vop P ev hp (.field T x f) = (vfieldV P T f (ev x)).map fun d => (d, hp) := rfl
theorem vcallee_field {ev : Operand → DV} {T : TypeId} {x : Operand} {f : Nat} : vcallee ev (.field T x f) = none := rfl
theorem okKind_field {T : TypeId} {x : Operand} {f : Nat} : okKind (.field T x f) = true := rfl
theorem foot_field {ev : Operand → DV} {T : TypeId} {x : Operand} {f : Nat} : foot ev (.field T x f) = ([], false) := rfl
theorem vop_indexAddr {P : Program} {ev : Operand → DV} {hp : Heap} {T : TypeId} {x : Operand} {i : Operand} : vop P ev hp (.indexAddr T x i) = (vindexAddr P T (ev x) (ev i)).map fun d => (d, hp) := rfl
theorem vcallee_indexAddr {ev : Operand → DV} {T : TypeId} {x : Operand} {i : Operand} : vcallee ev (.indexAddr T x i) = none := rfl
theorem okKind_indexAddr {T : TypeId} {x : Operand} {i : Operand} : okKind (.indexAddr T x i) = true := rfl
theorem foot_indexAddr {ev : Operand → DV} {T : TypeId} {x : Operand} {i : Operand} : foot ev (.indexAddr T x i) = ([], false) := rfl
theorem vop_index {P : Program} {ev : Operand → DV} {hp : Heap} {T : TypeId} {x : Operand} {i : Operand} : vop P ev hp (.index T x i) = (vindexV P T (ev x) (ev i)).map fun d => (d, hp) := rfl
theorem vcallee_index {ev : Operand → DV} {T : TypeId} {x : Operand} {i : Operand} : vcallee ev (.index T x i) = none := rfl
theorem okKind_index {T : TypeId} {x : Operand} {i : Operand} : okKind (.index T x i) = true := rfl
theorem foot_index {ev : Operand → DV} {T : TypeId} {x : Operand} {i : Operand} : foot ev (.index T x i) = ([], false) := rfl
theorem vop_extract {P : Program} {ev : Operand → DV} {hp : Heap} {x : Operand} {i : Nat} : vop P ev hp (.extract x i) = (vextract (ev x) i).map fun d => (d, hp) := rfl
theorem vcallee_extract {ev : Operand → DV} {x : Operand} {i : Nat} : vcallee ev (.extract x i) = none := rfl
theorem okKind_extract {x : Operand} {i : Nat} : okKind (.extract x i) = true := rfl
theorem foot_extract {ev : Operand → DV} {x : Operand} {i : Nat} : foot ev (.extract x i) = ([], false) := rfl
theorem foot_load {ev : Operand → DV} {T : TypeId} {a : Operand} : foot ev (.load T a) = (ptrNo (ev a), false) := rfl
theorem foot_store {ev : Operand → DV} {T : TypeId} {a x : Operand} : foot ev (.store T a x) = (ptrNo (ev a), true) := rfl
theorem foot_convert {ev : Operand → DV} {S T : TypeId} {x : Operand} : foot ev (.convert S T x) = (ownNo (ev x), false) := rfl
theorem foot_slice {ev : Operand → DV} {T : TypeId} {x : Operand} {lo hi mx : Option Operand} : foot ev (.slice T x lo hi mx) = (ptrNo (ev x), false) := rfl
theorem foot_call {ev : Operand → DV} {c : Call} : foot ev (.call c) = ([], false) := rfl
theorem okKind_len {a : Array Operand} {t : Array TypeId} : okKind (.call ⟨.builtin .len, a, t⟩) = true := rfl
theorem okKind_min {a : Array Operand} {t : Array TypeId} : okKind (.call ⟨.builtin .min, a, t⟩) = true := rfl
theorem okKind_max {a : Array Operand} {t : Array TypeId} : okKind (.call ⟨.builtin .max, a, t⟩) = true := rfl
theorem vop_builtin {P : Program} {ev : Operand → DV} {hp : Heap} {b : Builtin} {a : Array Operand} {t : Array TypeId} : vop P ev hp (.call ⟨.builtin b, a, t⟩) = vbuiltin P hp b t (a.toList.map ev) := rfl
theorem vcallee_builtin {ev : Operand → DV} {b : Builtin} {a : Array Operand} {t : Array TypeId} : vcallee ev (.call ⟨.builtin b, a, t⟩) = none := rfl
theorem vcallee_value {ev : Operand → DV} {f : Operand} {a : Array Operand} {t : Array TypeId} : vcallee ev (.call ⟨.value f, a, t⟩) = vcal (ev f) (a.toList.map ev) := rfl
theorem vcal_fn {g : FuncId} {first cap args : List DV} : vcal (.fn (.func g) first cap) args = some (g, first ++ args ++ cap) := rfl
theorem ptrNo_ptr {k off : Nat} : ptrNo (.ptr k off) = [k] := rfl
theorem ptrNo_ip {cs : List PV} : ptrNo (.ip cs) = [] := rfl
theorem ownNo_own {k a b c : Nat} : ownNo (.own k a b c) = [k] := rfl
theorem ownNo_pv {p : PV} : ownNo (.pv p) = [] := rfl
theorem vnil_ptr {k off : Nat} {hp : Heap} : vnil (.ptr k off) hp = some (.ptr k off, hp) := rfl
theorem vnil_ip {cs : List PV} {hp : Heap} : vnil (.ip cs) hp = some (.ip cs, hp) := rfl
theorem vpick_bool {t : Bool} {x y : DV} {hp : Heap} : vpick (.pv (.lit (.bool t))) x y hp = some (pickV t (strip t x) (strip (!t) y), hp) := rfl
theorem strip_pv {G : Bool} {p : PV} : strip G (.pv p) = .pv p := rfl
theorem strip_ptr {G : Bool} {k o : Nat} : strip G (.ptr k o) = .ptr k o := rfl
theorem strip_own {G : Bool} {k a b c : Nat} : strip G (.own k a b c) = .own k a b c := rfl
theorem strip_ip {G : Bool} {cs : List PV} : strip G (.ip cs) = .ip cs := rfl
theorem strip_agg {G : Bool} {cs : List DV} : strip G (.agg cs) = .agg cs := rfl
theorem strip_tup {G : Bool} {cs : List DV} : strip G (.tup cs) = .tup cs := rfl
theorem strip_fn {G : Bool} {f : Fn} {a b : List DV} : strip G (.fn f a b) = .fn f a b := rfl
theorem strip_any {G : Bool} : strip G .any = .any := rfl
theorem strip_opt {G g : Bool} {d : DV} : strip G (.opt g d) = vstr (!G || g) g d := by
  unfold strip vstr
  cases G <;> cases g <;> rfl
theorem strip_vstr {G b g : Bool} {p : PV} : strip G (vstr b g (.pv p)) = vstr (b || (!G || g)) g (.pv p) := by
  cases b <;> cases G <;> cases g <;> rfl
theorem vstr_true {g : Bool} {d : DV} : vstr true g d = d := rfl
theorem vstr_false {g : Bool} {d : DV} : vstr false g d = .opt g d := rfl
theorem optV_none {G : Bool} {d : DV} : optV none G d = d := rfl
theorem optV_some {g : Nat × Bool} {G : Bool} {d : DV} : optV (some g) G d = .opt G d := rfl
theorem pickV_bool {t p q : Bool} : pickV t (.pv (.lit (.bool p))) (.pv (.lit (.bool q))) = .bool (bif t then p else q) := rfl
theorem ev_tmp {nt base : Nat} {tm : List (Nat × DV)} {hp : Heap} {t : Nat} : St.ev ⟨nt, base, tm, hp⟩ (.tmp t) = V.look tm t := rfl
theorem ev_const {S : St} {v : Value} : St.ev S (.const v) = ofConst v := rfl
theorem ev_func {S : St} {f : FuncId} : St.ev S (.func f) = .fn (.func f) [] [] := rfl
theorem ofConst_int {k : IntKind} {n : Int} : ofConst (.int k n) = .pv (.lit (.int k n)) := rfl
theorem ofConst_bool {b : Bool} : ofConst (.bool b) = .pv (.lit (.bool b)) := rfl
theorem ofConst_string {s : ByteArray} : ofConst (.string s) = .pv (.str s.data.toList) := rfl
theorem ofConst_slice : ofConst (.slice none 0 0) = .pv (.slc []) := rfl
theorem ofConst_nilFunc : ofConst .nilFunc = .pv (.lit .nilFunc) := rfl
theorem put_some {nt base : Nat} {tm : List (Nat × DV)} {hp : Heap} {t : Nat} {d : DV} : St.put ⟨nt, base, tm, hp⟩ (some t) d = ⟨nt, base, (t, d) :: tm, hp⟩ := rfl
theorem put_none {S : St} {d : DV} : St.put S none d = S := rfl
theorem at_mk {nt base : Nat} {tm : List (Nat × DV)} {hp hp2 : Heap} : St.at ⟨nt, base, tm, hp⟩ hp2 = ⟨nt, base, tm, hp2⟩ := rfl
theorem fits_some {nt base : Nat} {tm : List (Nat × DV)} {hp : Heap} {t : Nat} : St.fits ⟨nt, base, tm, hp⟩ (some t) = decide (t < nt) := rfl
theorem fits_none {S : St} : St.fits S none = true := rfl
theorem look_cons {a t : Nat} {d : DV} {r : List (Nat × DV)} : V.look ((a, d) :: r) t = vlook (a == t) d r t := by
  unfold vlook
  simp only [V.look, Bool.cond_eq_ite, beq_iff_eq]
theorem vlook_t {t : Nat} {d : DV} {r : List (Nat × DV)} : vlook true d r t = d := rfl
theorem vlook_f {t : Nat} {d : DV} {r : List (Nat × DV)} : vlook false d r t = V.look r t := rfl
theorem guard_none {all : List Oper} {S : St} {dst : Option Tmp} {op : Op} {ty : TypeId} {pos : String} {af : Array Edge} : vguard all S ⟨dst, op, ty, pos, af, none⟩ = some true := rfl
theorem guard_some {all : List Oper} {S : St} {dst : Option Tmp} {op : Op} {ty : TypeId} {pos : String} {af : Array Edge} {j : Nat} {want : Bool} : vguard all S ⟨dst, op, ty, pos, af, some (j, want)⟩ = vgof ((all[j]?.bind (·.dst)).map (V.look S.tm)) want := rfl
theorem vgof_bool {b want : Bool} : vgof (some (.pv (.lit (.bool b)))) want = some (b == want) := rfl
theorem vgof_opt {g b want : Bool} : vgof (some (.opt g (.pv (.lit (.bool b))))) want = some (g && (b == want)) := rfl
theorem vgof_skip {want : Bool} : vgof (some (.tup [])) want = some false := rfl
theorem vrun_nil {P : Program} {all : List Oper} {K : St → Prop} {S : St} : vrun P all [] K S = K S := rfl
theorem vdr_nil {P : Program} {all : List Oper} {fs : List (List Nat × Bool)} {K : St → Prop} {S : St} : vdr P all [] fs K S = K S := rfl
theorem code_skip {P : Program} {Q : Exit → St → Prop} {S : St} : vcode P .skip Q S = Q .normal S := rfl
theorem code_region {P : Program} {id : Nat} {ops : Array Oper} {Q : Exit → St → Prop} {S : St} : vcode P (.region id ops false) Q S = vrun P ops.toList ops.toList (Q .normal) S := rfl
theorem code_draw {P : Program} {id : Nat} {ops : Array Oper} {Q : Exit → St → Prop} {S : St} : vcode P (.region id ops true) Q S = VDraw P id ops Q S := rfl
theorem code_seq {P : Program} {a b : Code} {Q : Exit → St → Prop} {S : St} : vcode P (.seq a b) Q S = vcode P a (onNormal Q (vcode P b Q)) S := rfl
theorem code_block {P : Program} {id : Nat} {c : Code} {Q : Exit → St → Prop} {S : St} : vcode P (.block id c) Q S = vcode P c (onBlock id Q) S := rfl
theorem code_loop {P : Program} {c : Code} {Q : Exit → St → Prop} {S : St} : vcode P (.loop c) Q S = VLoop P c Q S := rfl
theorem code_exit {P : Program} {id : Nat} {Q : Exit → St → Prop} {S : St} : vcode P (.exit id) Q S = Q (.exit id) S := rfl
theorem code_ret {P : Program} {Q : Exit → St → Prop} {S : St} : vcode P .ret Q S = Q .ret S := rfl
theorem onNormal_normal {Q : Exit → St → Prop} {K : St → Prop} {S : St} : onNormal Q K .normal S = K S := rfl
theorem onNormal_ret {Q : Exit → St → Prop} {K : St → Prop} {S : St} : onNormal Q K .ret S = Q .ret S := rfl
theorem onNormal_exit {Q : Exit → St → Prop} {K : St → Prop} {S : St} {id : Nat} : onNormal Q K (.exit id) S = Q (.exit id) S := rfl
theorem onBlock_normal {id : Nat} {Q : Exit → St → Prop} {S : St} : onBlock id Q .normal S = Q .normal S := rfl
theorem onBlock_ret {id : Nat} {Q : Exit → St → Prop} {S : St} : onBlock id Q .ret S = Q .ret S := rfl
theorem onBlock_exit {id id2 : Nat} {Q : Exit → St → Prop} {S : St} : onBlock id Q (.exit id2) S = if id2 = id then Q .normal S else Q (.exit id2) S := rfl
theorem frz_agg {n : Nat} {hp : Heap} {cs : List DV} : frz n hp (.agg cs) = (allSome (cs.map (frz1 n hp))).map .agg := rfl
theorem frz_pv {n : Nat} {hp : Heap} {p : PV} : frz n hp (.pv p) = some (.pv p) := rfl
theorem frz_own {n : Nat} {hp : Heap} {k a b c : Nat} : frz n hp (.own k a b c) = frz1 n hp (.own k a b c) := rfl
theorem frz_ptr {n : Nat} {hp : Heap} {k o : Nat} : frz n hp (.ptr k o) = frz1 n hp (.ptr k o) := rfl
theorem frz_tup {n : Nat} {hp : Heap} {cs : List DV} : frz n hp (.tup cs) = (allSome (cs.map (frzT n hp))).map .tup := by
  simp only [frz]; congr 2
theorem frzT_agg {n : Nat} {hp : Heap} {cs : List DV} : frzT n hp (.agg cs) = (allSome (cs.map (frz1 n hp))).map .agg := rfl
theorem frzT_pv {n : Nat} {hp : Heap} {p : PV} : frzT n hp (.pv p) = some (.pv p) := rfl
theorem frzT_own {n : Nat} {hp : Heap} {k a b c : Nat} : frzT n hp (.own k a b c) = frz1 n hp (.own k a b c) := rfl
theorem frz1_pv {n : Nat} {hp : Heap} {p : PV} : frz1 n hp (.pv p) = some (.pv p) := rfl
theorem frz1_own {n : Nat} {hp : Heap} {k a b c : Nat} : frz1 n hp (.own k a b c) = if k < n then some (.own k a b c) else (frzP n hp 4 (.own k a b c)).map .pv := rfl
theorem allSome_nil {α : Type} : allSome ([] : List (Option α)) = some [] := rfl
theorem allSome_cons {α : Type} {a : α} {r : List (Option α)} : allSome (some a :: r) = (allSome r).map (a :: ·) := rfl
theorem frzHeap_zero {hp : Heap} : frzHeap 0 hp = some [] := by
  simp [frzHeap, allSome]
theorem res_one {P : Program} {S : St} {r : ResultVar} : vresults P S [r] = vres P S r := by
  unfold vresults; cases h : vres P S r <;> simp [allSome, h]
theorem res_two {P : Program} {S : St} {r s : ResultVar} {rs : List ResultVar} : vresults P S (r :: s :: rs) = (allSome ((r :: s :: rs).map (vres P S))).map .tup := by
  unfold vresults
  cases h : allSome ((r :: s :: rs).map (vres P S)) with
  | none => rfl
  | some ds =>
    have hl := (allSome_get h).1
    match ds, hl with
    | a :: b :: t, _ => rfl
theorem vres_tmp {P : Program} {S : St} {t : Nat} : vres P S (.tmp t) = some (V.look S.tm t) := rfl
theorem vres_cell {P : Program} {S : St} {a : Nat} {T : TypeId} : vres P S (.cell a T) = vload P S.hp T (V.look S.tm a) := rfl
theorem load_ptr {P : Program} {hp : Heap} {T : TypeId} {k off : Nat} : vload P hp T (.ptr k off) = vld (blkCells hp k) (vt P T) off := by
  unfold vld; rfl
theorem load_ip {P : Program} {hp : Heap} {T : TypeId} {cs : List PV} : vload P hp T (.ip cs) = vldp cs (vt P T) := rfl
theorem vld_one {cs : List DV} {off : Nat} : vld (some cs) (some none) off = cs[off]? := rfl
theorem vld_agg {cs : List DV} {n off : Nat} : vld (some cs) (some (some n)) off = if off + n ≤ cs.length then some (.agg ((cs.drop off).take n)) else none := rfl
theorem vldp_one {cs : List PV} : vldp cs (some none) = cs[0]?.map .pv := rfl
theorem vldp_agg {cs : List PV} {n : Nat} : vldp cs (some (some n)) = if n ≤ cs.length then some (.agg ((cs.take n).map .pv)) else none := rfl
theorem store_ptr {P : Program} {hp : Heap} {T : TypeId} {k off : Nat} {d : DV} : vstore P hp T (.ptr k off) d = vst hp k (blkCells hp k) (vt P T) off d := by
  unfold vst; rfl
theorem vst_one {hp : Heap} {k off : Nat} {cs : List DV} {d : DV} : vst hp k (some cs) (some none) off d = if off < cs.length ∧ d.one = true then some (setBlk hp k (cs.set off d)) else none := rfl
theorem vst_agg {hp : Heap} {k n off : Nat} {cs ds : List DV} : vst hp k (some cs) (some (some n)) off (.agg ds) = if off + n ≤ cs.length ∧ ds.length = n ∧ allOne ds = true then some (setBlk hp k (splice cs off ds)) else none := rfl
theorem blk_live {hp : Heap} {k : Nat} {ty : TypeId} {cs : List DV} (h : hp[k]? = some ⟨ty, true, cs⟩) : blkCells hp k = some cs := by
  simp [blkCells, h]
theorem blk_zero {ty : TypeId} {cs : List DV} {r : Heap} : blkCells (⟨ty, true, cs⟩ :: r) 0 = some cs := rfl
theorem blk_succ {B : Blk} {r : Heap} {k : Nat} : blkCells (B :: r) (k + 1) = blkCells r k := rfl
theorem set_zero {ty : TypeId} {l : Bool} {cs ds : List DV} {r : Heap} : setBlk (⟨ty, l, cs⟩ :: r) 0 ds = ⟨ty, l, ds⟩ :: r := rfl
theorem set_succ {B : Blk} {ds : List DV} {r : Heap} {k : Nat} : setBlk (B :: r) (k + 1) ds = B :: setBlk r k ds := by
  unfold setBlk
  simp only [List.getElem?_cons_succ]
  cases r[k]? <;> rfl
theorem box_eq {hp : Heap} {T : TypeId} {d : DV} : vbox hp T d = if allOne (dcells d) = true then some (.ptr hp.length 0, hp ++ [⟨T, true, dcells d⟩]) else none := rfl
theorem alloc_eq {P : Program} {hp : Heap} {T : TypeId} : valloc P hp T = val1 hp T (vzero P T) := by
  unfold valloc val1; cases vzero P T <;> rfl
theorem val1_some {hp : Heap} {T : TypeId} {cs : List DV} : val1 hp T (some cs) = if allOne cs = true then some (.ptr hp.length 0, hp ++ [⟨T, true, cs⟩]) else none := rfl
theorem dcells_agg {cs : List DV} : dcells (.agg cs) = cs := rfl
theorem dcells_pv {p : PV} : dcells (.pv p) = [.pv p] := rfl
theorem dcells_ptr {k o : Nat} : dcells (.ptr k o) = [.ptr k o] := rfl
theorem dcells_own {k a b c : Nat} : dcells (.own k a b c) = [.own k a b c] := rfl
theorem allOne_nil : allOne [] = true := rfl
theorem allOne_cons {d : DV} {r : List DV} : allOne (d :: r) = (d.one && allOne r) := rfl
theorem one_pv {p : PV} : DV.one (.pv p) = true := rfl
theorem one_ptr {k o : Nat} : DV.one (.ptr k o) = true := rfl
theorem one_own {k a b c : Nat} : DV.one (.own k a b c) = true := rfl
theorem one_ip {cs : List PV} : DV.one (.ip cs) = true := rfl
theorem one_fn {f : Fn} {a b : List DV} : DV.one (.fn f a b) = true := rfl
theorem faddr_ptr {P : Program} {T : TypeId} {f k off : Nat} : vfieldAddr P T f (.ptr k off) = vfap (vfield P T f) k off := by
  simp only [vfieldAddr, vfap]; cases vfield P T f <;> rfl
theorem vfap_some {t : TypeId} {o s k off : Nat} : vfap (some (t, o, s)) k off = if s = 0 then none else some (.ptr k (off + o)) := rfl
theorem faddr_ip {P : Program} {T : TypeId} {f : Nat} {cs : List PV} : vfieldAddr P T f (.ip cs) = vfai (vfield P T f) cs := by
  simp only [vfieldAddr, vfai]; cases vfield P T f <;> rfl
theorem vfai_some {t : TypeId} {o s : Nat} {cs : List PV} : vfai (some (t, o, s)) cs = if s = 0 then none else some (.ip (cs.drop o)) := rfl
theorem fieldV_agg {P : Program} {T : TypeId} {f : Nat} {cs : List DV} : vfieldV P T f (.agg cs) = vfv P cs (vfield P T f) := by
  simp only [vfieldV, vfv]; cases vfield P T f <;> rfl
theorem vfv_some {P : Program} {t : TypeId} {o s : Nat} {cs : List DV} : vfv P cs (some (t, o, s)) = vpart P t cs o := rfl
theorem vpart_eq {P : Program} {T : TypeId} {cs : List DV} {off : Nat} : vpart P T cs off = vpt (vt P T) cs off := by
  unfold vpart vpt; cases vt P T with
  | none => rfl
  | some o => cases o <;> rfl
theorem vpt_one {cs : List DV} {off : Nat} : vpt (some none) cs off = cs[off]? := rfl
theorem vpt_agg {cs : List DV} {n off : Nat} : vpt (some (some n)) cs off = if off + n ≤ cs.length then some (.agg ((cs.drop off).take n)) else none := rfl
theorem iaddr_sl {P : Program} {T : TypeId} {xs : List (List PV)} {k : IntKind} {i : Int} : vindexAddr P T (.pv (.sl xs)) (.pv (.lit (.int k i))) = vias (velem P T) xs[i.toNat]? i := by
  unfold vias vindexAddr
  cases velem P T with
  | none => rfl
  | some e =>
    obtain ⟨a, b, c⟩ := e
    cases a with
    | some n => rfl
    | none => cases h : xs[i.toNat]? <;> simp [slOf, h]
theorem iaddr_slc {P : Program} {T : TypeId} {xs : List (List PV)} {k : IntKind} {i : Int} : vindexAddr P T (.pv (.slc xs)) (.pv (.lit (.int k i))) = vias (velem P T) xs[i.toNat]? i := by
  unfold vias vindexAddr
  cases velem P T with
  | none => rfl
  | some e =>
    obtain ⟨a, b, c⟩ := e
    cases a with
    | some n => rfl
    | none => cases h : xs[i.toNat]? <;> simp [slOf, h]
theorem vias_some {e : TypeId} {sz : Nat} {c : List PV} {i : Int} (h0 : 0 ≤ i) (hl : c.length = sz) (hp : 0 < sz) : vias (some (none, e, sz)) (some c) i = some (.ip c) := by
  simp [vias, h0, hl, hp]
theorem iaddr_own {P : Program} {T : TypeId} {b sz off len : Nat} {k : IntKind} {i : Int} : vindexAddr P T (.own b sz off len) (.pv (.lit (.int k i))) = viao (velem P T) b sz off len i := by
  unfold viao vindexAddr
  cases velem P T with
  | none => rfl
  | some e =>
    obtain ⟨a, b, c⟩ := e
    cases a <;> rfl
theorem viao_some {e : TypeId} {sz b off len : Nat} {i : Int} (h0 : 0 ≤ i) (hl : i < len) : viao (some (none, e, sz)) b sz off len i = some (.ptr b (off + i.toNat * sz)) := by
  simp [viao, h0, hl]
theorem iaddr_ptr {P : Program} {T : TypeId} {b off : Nat} {k : IntKind} {i : Int} : vindexAddr P T (.ptr b off) (.pv (.lit (.int k i))) = viap (velem P T) b off i := by
  unfold viap vindexAddr
  cases velem P T with
  | none => rfl
  | some e =>
    obtain ⟨a, b, c⟩ := e
    cases a <;> rfl
theorem viap_some {e : TypeId} {n sz b off : Nat} {i : Int} (h0 : 0 ≤ i) (hl : i < n) : viap (some (some n, e, sz)) b off i = some (.ptr b (off + i.toNat * sz)) := by
  simp [viap, h0, hl]
theorem iaddr_ip {P : Program} {T : TypeId} {cs : List PV} {k : IntKind} {i : Int} : vindexAddr P T (.ip cs) (.pv (.lit (.int k i))) = viai (velem P T) cs i := by
  unfold viai vindexAddr
  cases velem P T with
  | none => rfl
  | some e =>
    obtain ⟨a, b, c⟩ := e
    cases a <;> rfl
theorem viai_some {e : TypeId} {n sz : Nat} {cs : List PV} {i : Int} (h0 : 0 ≤ i) (hl : i < n) : viai (some (some n, e, sz)) cs i = some (.ip (cs.drop (i.toNat * sz))) := by
  simp [viai, h0, hl]
theorem index_agg {P : Program} {T : TypeId} {cs : List DV} {k : IntKind} {i : Int} : vindexV P T (.agg cs) (.pv (.lit (.int k i))) = viva P (velem P T) cs i := by
  unfold viva vindexV
  cases velem P T with
  | none => rfl
  | some e =>
    obtain ⟨a, b, c⟩ := e
    cases a <;> rfl
theorem viva_some {P : Program} {e : TypeId} {n sz : Nat} {cs : List DV} {i : Int} (h0 : 0 ≤ i) (hl : i < n) : viva P (some (some n, e, sz)) cs i = vpart P e cs (i.toNat * sz) := by
  simp [viva, h0, hl]
theorem index_str {P : Program} {T : TypeId} {l : List UInt8} {k : IntKind} {i : Int} : vindexV P T (.pv (.str l)) (.pv (.lit (.int k i))) = vivs (vkind P T) l[i.toNat]? i := by
  unfold vivs vindexV vkind
  cases P.underlying T with
  | none => rfl
  | some u => cases u <;> first | rfl | (cases h : l[i.toNat]? <;> simp [h])
theorem vivs_some {b : UInt8} {i : Int} (h0 : 0 ≤ i) : vivs .str (some b) i = some (.pv (.lit (.int .u8 b.toNat))) := by
  simp [vivs, h0]
theorem bin_int {P : Program} {op : BinOp} {T : TypeId} {k k2 : IntKind} {a b : Int} : vbin P op T (.pv (.lit (.int k a))) (.pv (.lit (.int k2 b))) = vbinInt op k a k2 b := rfl
theorem bin_str {P : Program} {op : BinOp} {T : TypeId} {a b : List UInt8} : vbin P op T (.pv (.str a)) (.pv (.str b)) = vbinStr op a b := rfl
theorem int_add {k : IntKind} {a b : Int} : vbinInt .add k a k b = some (.int k (k.wrap (a + b))) := by
  simp [vbinInt]
theorem int_sub {k : IntKind} {a b : Int} : vbinInt .sub k a k b = some (.int k (k.wrap (a - b))) := by
  simp [vbinInt]
theorem int_mul {k : IntKind} {a b : Int} : vbinInt .mul k a k b = some (.int k (k.wrap (a * b))) := by
  simp [vbinInt]
theorem int_and {k : IntKind} {a b : Int} : vbinInt .and k a k b = some (.int k (bits .and k a b)) := by
  simp [vbinInt]
theorem int_or {k : IntKind} {a b : Int} : vbinInt .or k a k b = some (.int k (bits .or k a b)) := by
  simp [vbinInt]
theorem int_xor {k : IntKind} {a b : Int} : vbinInt .xor k a k b = some (.int k (bits .xor k a b)) := by
  simp [vbinInt]
theorem int_eql {k : IntKind} {a b : Int} : vbinInt .eql k a k b = some (.bool (a == b)) := by
  simp [vbinInt]
theorem int_neq {k : IntKind} {a b : Int} : vbinInt .neq k a k b = some (.bool (a != b)) := by
  simp [vbinInt]
theorem int_lss {k : IntKind} {a b : Int} : vbinInt .lss k a k b = some (.bool (decide (a < b))) := by
  simp [vbinInt]
theorem int_leq {k : IntKind} {a b : Int} : vbinInt .leq k a k b = some (.bool (decide (a ≤ b))) := by
  simp [vbinInt]
theorem int_gtr {k : IntKind} {a b : Int} : vbinInt .gtr k a k b = some (.bool (decide (b < a))) := by
  simp [vbinInt]
theorem int_geq {k : IntKind} {a b : Int} : vbinInt .geq k a k b = some (.bool (decide (b ≤ a))) := by
  simp [vbinInt]
theorem int_quo {k : IntKind} {a b : Int} (h : ¬ b = 0) : vbinInt .quo k a k b = some (.int k (k.wrap (a.tdiv b))) := by
  simp [vbinInt, h]
theorem int_rem {k : IntKind} {a b : Int} (h : ¬ b = 0) : vbinInt .rem k a k b = some (.int k (a.tmod b)) := by
  simp [vbinInt, h]
theorem int_shl {k k2 : IntKind} {a b : Int} (h : ¬ b < 0) : vbinInt .shl k a k2 b = some (.int k (k.wrap (a * 2 ^ min b.toNat k.bits))) := by
  simp [vbinInt, h]
theorem int_shr {k k2 : IntKind} {a b : Int} (h : ¬ b < 0) : vbinInt .shr k a k2 b = some (.int k (a.fdiv (2 ^ min b.toNat k.bits))) := by
  simp [vbinInt, h]
theorem str_add {a b : List UInt8} (h : a.length + b.length ≤ 9223372036854775807) : vbinStr .add a b = some (.str (a ++ b)) := by
  simp [vbinStr, h]
theorem str_eql {a b : List UInt8} : vbinStr .eql a b = some (.bool (a == b)) := rfl
theorem str_neq {a b : List UInt8} : vbinStr .neq a b = some (.bool (!(a == b))) := rfl
theorem un_not {b : Bool} : vun .not (.pv (.lit (.bool b))) = some (.bool (!b)) := rfl
theorem un_neg {k : IntKind} {n : Int} : vun .neg (.pv (.lit (.int k n))) = some (.int k (k.wrap (0 - n))) := rfl
theorem ext_tup {ds : List DV} {i : Nat} : vextract (.tup ds) i = ds[i]? := rfl
theorem len_sl {P : Program} {T : TypeId} {xs : List (List PV)} : vlen P T (.pv (.sl xs)) = vlk (vkind P T) (.int .i64 xs.length) := by
  unfold vlen vlk vkind
  cases P.underlying T with
  | none => rfl
  | some u => cases u <;> rfl
theorem vlk_sl {e : TypeId} {d : DV} : vlk (.sl e) d = some d := rfl
theorem vlk_arr {n : Nat} {d : DV} : vlk (.arr n) d = some (.int .i64 n) := rfl
theorem len_slc {P : Program} {T : TypeId} {xs : List (List PV)} : vlen P T (.pv (.slc xs)) = vlk (vkind P T) (.int .i64 xs.length) := by
  unfold vlen vlk vkind
  cases P.underlying T with
  | none => rfl
  | some u => cases u <;> rfl
theorem len_own {P : Program} {T : TypeId} {k s o n : Nat} : vlen P T (.own k s o n) = vlk (vkind P T) (.int .i64 n) := by
  unfold vlen vlk vkind
  cases P.underlying T with
  | none => rfl
  | some u => cases u <;> rfl
theorem len_str {P : Program} {T : TypeId} {l : List UInt8} : vlen P T (.pv (.str l)) = vls (vkind P T) l := by
  unfold vlen vls vkind
  cases P.underlying T with
  | none => rfl
  | some u => cases u <;> rfl
theorem vls_str {l : List UInt8} : vls .str l = some (.int .i64 l.length) := rfl
theorem bi_len {P : Program} {hp : Heap} {T : TypeId} {x : DV} : vbuiltin P hp .len #[T] [x] = (vlen P T x).map fun d => (d, hp) := rfl
theorem bi_append {P : Program} {hp : Heap} {s t : TypeId} {x y : DV} : vbuiltin P hp .append #[s, t] [x, y] = vappend P hp s t x y := rfl
theorem bi_copy {P : Program} {hp : Heap} {s t : TypeId} {x y : DV} : vbuiltin P hp .copy #[s, t] [x, y] = vcopy P hp s x y := rfl
theorem bi_min {P : Program} {hp : Heap} {ts : Array TypeId} {k k2 : IntKind} {a b : Int} : vbuiltin P hp .min ts [.pv (.lit (.int k a)), .pv (.lit (.int k2 b))] = some (.int k (if b < a then b else a), hp) := by
  simp [vbuiltin, V.vmin]
theorem bi_max {P : Program} {hp : Heap} {ts : Array TypeId} {k k2 : IntKind} {a b : Int} : vbuiltin P hp .max ts [.pv (.lit (.int k a)), .pv (.lit (.int k2 b))] = some (.int k (if b > a then b else a), hp) := by
  simp [vbuiltin, V.vmax]
theorem parts_nil {ev : Operand → DV} : V.parts ev #[] = [] := rfl
theorem parts_cons {ev : Operand → DV} {i : Nat} {x : Operand} {r : List (Nat × Operand)} : V.parts ev ⟨(i, x) :: r⟩ = (i, ev x) :: V.parts ev ⟨r⟩ := rfl
theorem enum_nil {i : Nat} : enum i [] = [] := rfl
theorem enum_cons {i : Nat} {d : DV} {r : List DV} : enum i (d :: r) = (i, d) :: enum (i + 1) r := rfl
theorem okc_nil {af : Array Edge} {f : List Nat × Bool} {i : Nat} : okClash af f i [] = true := rfl
theorem okc_none {af : Array Edge} {i : Nat} {b : Bool} {g : List Nat × Bool} {r : List (List Nat × Bool)} : okClash af ([], b) i (g :: r) = okClash af ([], b) (i + 1) r := by
  simp [okClash]
theorem okc_other {af : Array Edge} {f : List Nat × Bool} {i : Nat} {b : Bool} {r : List (List Nat × Bool)} : okClash af f i (([], b) :: r) = okClash af f (i + 1) r := by
  simp [okClash]
theorem okc_one {af : Array Edge} {k l i : Nat} {b c : Bool} {r : List (List Nat × Bool)} : okClash af ([k], b) i (([l], c) :: r) = ((!((c || b) && (l == k)) || af.toList.any fun e => Region.binds .any e && e.on == i) && okClash af ([k], b) (i + 1) r) := by
  simp only [okClash, List.any_cons, List.any_nil, Bool.or_false, List.contains, List.elem]
  cases h : (l == k) <;> simp
theorem conv_int {P : Program} {hp : Heap} {S T : TypeId} {k2 : IntKind} {n : Int} : vconvert P hp S T (.pv (.lit (.int k2 n))) = vci (vkind P S) (vkind P T) n hp := by
  unfold vconvert vconvert0 vci vkind
  cases P.underlying S with
  | none => rfl
  | some u => cases P.underlying T with
    | none => cases u <;> rfl
    | some t => cases u <;> cases t <;> try rfl
                all_goals (simp only [bsrc, vsrc, slOf]; split <;> simp_all)
theorem vci_int {k0 k : IntKind} {n : Int} {hp : Heap} : vci (.int k0) (.int k) n hp = some (.int k (k.wrap n), hp) := rfl
theorem evG_eq {G : Bool} {S : St} {x : Operand} : evG G S x = strip G (S.ev x) := rfl
theorem vrun_cons {P : Program} {all r : List Oper} {o : Oper} {K : St → Prop} {S : St} : vrun P all (o :: r) K S = (S.fits o.dst = true ∧ vrun1 P all o r K S (vguard all S o)) := by
  conv => lhs; unfold vrun
  congr 1
theorem run1_some {P : Program} {all r : List Oper} {o : Oper} {K : St → Prop} {S : St} {G : Bool} : vrun1 P all o r K S (some G) = vrun2 P all o r K S G (vcallee (evG G S) o.op) := rfl
theorem run2_none {P : Program} {all r : List Oper} {o : Oper} {K : St → Prop} {S : St} {G : Bool} : vrun2 P all o r K S G none = vrun3 P all o r K S G (vop P (evG G S) S.hp o.op) := rfl
theorem run2_some {P : Program} {all r : List Oper} {o : Oper} {K : St → Prop} {S : St} {G : Bool} {g : FuncId} {args : List DV} : vrun2 P all o r K S G (some (g, args)) = vcg P o.guard g args S.hp G (vrunK P all o r K S) := rfl
theorem run3_some {P : Program} {all r : List Oper} {o : Oper} {K : St → Prop} {S : St} {G : Bool} {d : DV} {hp : Heap} : vrun3 P all o r K S G (some (d, hp)) = vrun P all r K ((S.at (bif G then hp else S.hp)).put o.dst (optV o.guard G d)) := rfl
theorem run3_none {P : Program} {all r : List Oper} {o : Oper} {K : St → Prop} {S : St} {G : Bool} : vrun3 P all o r K S G none = (G = false ∧ vrun P all r K (S.put o.dst (.tup []))) := rfl
theorem runK_eq {P : Program} {all r : List Oper} {o : Oper} {K : St → Prop} {S : St} {d : DV} {hp : Heap} : vrunK P all o r K S d hp = vrun P all r K ((S.at hp).put o.dst d) := rfl
theorem vcg_none {P : Program} {g : FuncId} {args : List DV} {hp : Heap} {G : Bool} {K : DV → Heap → Prop} : vcg P none g args hp G K = VCalls P g args hp K := rfl
theorem vcg_some {P : Program} {j : Nat × Bool} {g : FuncId} {args : List DV} {hp : Heap} {G : Bool} {K : DV → Heap → Prop} : vcg P (some j) g args hp G K = VCallG P g args hp G K := rfl
theorem vdr_cons {P : Program} {all r : List Oper} {o : Oper} {fs : List (List Nat × Bool)} {K : St → Prop} {S : St} : vdr P all (o :: r) fs K S = (S.fits o.dst = true ∧ vdr1 P all o r fs K S (vguard all S o)) := by
  conv => lhs; unfold vdr
  congr 1
theorem dr1_some {P : Program} {all r : List Oper} {o : Oper} {fs : List (List Nat × Bool)} {K : St → Prop} {S : St} {G : Bool} : vdr1 P all o r fs K S (some G) = vdr2 P all o r fs K S G (vcallee (evG G S) o.op) := rfl
theorem dr2_none {P : Program} {all r : List Oper} {o : Oper} {fs : List (List Nat × Bool)} {K : St → Prop} {S : St} {G : Bool} : vdr2 P all o r fs K S G none = vdr3 P all o r fs K S G (foot (evG G S) o.op) (vop P (evG G S) S.hp o.op) := rfl
theorem dr2_some {P : Program} {all r : List Oper} {o : Oper} {fs : List (List Nat × Bool)} {K : St → Prop} {S : St} {G : Bool} {g : FuncId} {args : List DV} : vdr2 P all o r fs K S G (some (g, args)) = vdc P g args G (vdrK P all o r fs K S G) := rfl
theorem dr3_some {P : Program} {all r : List Oper} {o : Oper} {fs : List (List Nat × Bool)} {K : St → Prop} {S : St} {G : Bool} {d : DV} {hp : Heap} {f : List Nat × Bool} : vdr3 P all o r fs K S G f (some (d, hp)) = (okKind o.op = true ∧ okClash o.after f 0 fs = true ∧ vdr P all r (fs ++ [f]) K ((S.at (bif G then hp else S.hp)).put o.dst (optV o.guard G d))) := rfl
theorem dr3_none {P : Program} {all r : List Oper} {o : Oper} {fs : List (List Nat × Bool)} {K : St → Prop} {S : St} {G : Bool} {f : List Nat × Bool} : vdr3 P all o r fs K S G f none = (G = false ∧ vdr P all r (fs ++ [([], false)]) K (S.put o.dst (.tup []))) := rfl
theorem drK_eq {P : Program} {all r : List Oper} {o : Oper} {fs : List (List Nat × Bool)} {K : St → Prop} {S : St} {G : Bool} {d : DV} : vdrK P all o r fs K S G d = vdr P all r (fs ++ [([], false)]) K (S.put o.dst (optV o.guard G d)) := rfl
theorem code_cond {P : Program} {c : Operand} {a b : Code} {Q : Exit → St → Prop} {S : St} : vcode P (.cond c a b) Q S = vtest P a b Q S (S.ev c) := by
  conv => lhs; unfold vcode
  unfold vtest
  rfl
theorem vtest_bool {P : Program} {t : Bool} {a b : Code} {Q : Exit → St → Prop} {S : St} : vtest P a b Q S (.pv (.lit (.bool t))) = vbr P a b Q S t := rfl
theorem vbr_true {P : Program} {a b : Code} {Q : Exit → St → Prop} {S : St} : vbr P a b Q S true = vcode P a Q S := by
  simp [vbr, vcond]
theorem vbr_false {P : Program} {a b : Code} {Q : Exit → St → Prop} {S : St} : vbr P a b Q S false = vcode P b Q S := by
  simp [vbr, vcond]
theorem vpost_normal {P : Program} {rs : List ResultVar} {n : Nat} {R : DV → Heap → Prop} {S : St} : vpost P rs n R .normal S = vfin n S.hp R (vresults P S rs) := by
  unfold vpost vfin; cases vresults P S rs <;> rfl
theorem vpost_ret {P : Program} {rs : List ResultVar} {n : Nat} {R : DV → Heap → Prop} {S : St} : vpost P rs n R .ret S = vfin n S.hp R (vresults P S rs) := by
  unfold vpost vfin; cases vresults P S rs <;> rfl
theorem keep_normal {P : Program} {rs : List ResultVar} {R : DV → Heap → Prop} {S : St} : vpostKeep P rs R .normal S = vfinK S.hp R (vresults P S rs) := by
  unfold vpostKeep vfinK; cases vresults P S rs <;> rfl
theorem keep_ret {P : Program} {rs : List ResultVar} {R : DV → Heap → Prop} {S : St} : vpostKeep P rs R .ret S = vfinK S.hp R (vresults P S rs) := by
  unfold vpostKeep vfinK; cases vresults P S rs <;> rfl
theorem vfin_some {n : Nat} {hp : Heap} {R : DV → Heap → Prop} {d : DV} : vfin n hp R (some d) = vfin2 R (frz n hp d) (frzHeap n hp) := by
  simp only [vfin, VEnd, vfin2]; cases frz n hp d <;> cases frzHeap n hp <;> rfl
theorem vfinK_some {hp : Heap} {R : DV → Heap → Prop} {d : DV} : vfinK hp R (some d) = R d hp := rfl
theorem vfin2_some {d : DV} {hp : Heap} {R : DV → Heap → Prop} : vfin2 R (some d) (some hp) = R d hp := rfl
theorem at_hp {nt base : Nat} {tm : List (Nat × DV)} {hp : Heap} : St.hp ⟨nt, base, tm, hp⟩ = hp := rfl
theorem slice_ptr {P : Program} {hp : Heap} {T : TypeId} {k off : Nat} : vslice2 P hp T (.ptr k off) none none none = vsla (velem P T) (blkCells hp k) k off := by
  unfold vslice2 vsliceArr vsla
  rfl
theorem vsla_some {n sz k off : Nat} {e : TypeId} {cs : List DV} (h : off + n * sz ≤ cs.length) (h2 : n ≤ 9223372036854775807) : vsla (some (some n, e, sz)) (some cs) k off = some (.own k sz off n) := by
  simp [vsla, h, h2]
theorem slice_pv {P : Program} {hp : Heap} {T : TypeId} {p : PV} {lo hi mx : Option DV} : vslice2 P hp T (.pv p) lo hi mx = vslice P T (.pv p) lo hi mx := rfl
theorem slice_own {P : Program} {hp : Heap} {T : TypeId} {k a b c : Nat} {lo hi mx : Option DV} : vslice2 P hp T (.own k a b c) lo hi mx = vslice P T (.own k a b c) lo hi mx := rfl
theorem frzHeap_one {ty : TypeId} {cs : List DV} {r : Heap} : frzHeap 1 (⟨ty, true, cs⟩ :: r) = frzH1 ty (allSome (cs.map (frz1 1 (⟨ty, true, cs⟩ :: r)))) := by
  unfold frzHeap frzH1
  simp only [List.take_succ_cons, List.take_zero, List.map_cons, List.map_nil, if_true]
  cases allSome (cs.map (frz1 1 (⟨ty, true, cs⟩ :: r))) <;> rfl
theorem frzH1_some {ty : TypeId} {cs : List DV} : frzH1 ty (some cs) = some [⟨ty, true, cs⟩] := rfl
theorem frz1_ptr {n k o : Nat} {hp : Heap} : frz1 n hp (.ptr k o) = if k < n then some (.ptr k o) else none := rfl
theorem slice_sl_hi {P : Program} {T : TypeId} {k2 : IntKind} {j : Int} {xs : List (List PV)} (h1 : 0 ≤ j) : vslice P T (.pv (.sl xs)) none (some (.pv (.lit (.int k2 j)))) none = vslk (velem P T) xs 0 j.toNat := by
  unfold vslice vslk
  simp only [slOf, loOf, hiOf, if_pos h1]
  cases velem P T with
  | none => rfl
  | some e =>
    obtain ⟨a, b, c⟩ := e
    cases a <;> rfl
theorem slice_sl_lo {P : Program} {T : TypeId} {k : IntKind} {i : Int} {xs : List (List PV)} (h0 : 0 ≤ i) : vslice P T (.pv (.sl xs)) (some (.pv (.lit (.int k i)))) none none = vslk (velem P T) xs i.toNat xs.length := by
  unfold vslice vslk
  simp only [slOf, loOf, hiOf, if_pos h0]
  cases velem P T with
  | none => rfl
  | some e =>
    obtain ⟨a, b, c⟩ := e
    cases a <;> rfl
theorem slice_sl_lohi {P : Program} {T : TypeId} {k k2 : IntKind} {i j : Int} {xs : List (List PV)} (h0 : 0 ≤ i) (h1 : 0 ≤ j) : vslice P T (.pv (.sl xs)) (some (.pv (.lit (.int k i)))) (some (.pv (.lit (.int k2 j)))) none = vslk (velem P T) xs i.toNat j.toNat := by
  unfold vslice vslk
  simp only [slOf, loOf, hiOf, if_pos h0, if_pos h1]
  cases velem P T with
  | none => rfl
  | some e =>
    obtain ⟨a, b, c⟩ := e
    cases a <;> rfl
theorem slice_sl_all {P : Program} {T : TypeId}  {xs : List (List PV)}  : vslice P T (.pv (.sl xs)) none none none = vslk (velem P T) xs 0 xs.length := by
  unfold vslice vslk
  simp only [slOf, loOf, hiOf]
  cases velem P T with
  | none => rfl
  | some e =>
    obtain ⟨a, b, c⟩ := e
    cases a <;> rfl
theorem slice_slc_hi {P : Program} {T : TypeId} {k2 : IntKind} {j : Int} {xs : List (List PV)} (h1 : 0 ≤ j) : vslice P T (.pv (.slc xs)) none (some (.pv (.lit (.int k2 j)))) none = vslk (velem P T) xs 0 j.toNat := by
  unfold vslice vslk
  simp only [slOf, loOf, hiOf, if_pos h1]
  cases velem P T with
  | none => rfl
  | some e =>
    obtain ⟨a, b, c⟩ := e
    cases a <;> rfl
theorem slice_slc_lo {P : Program} {T : TypeId} {k : IntKind} {i : Int} {xs : List (List PV)} (h0 : 0 ≤ i) : vslice P T (.pv (.slc xs)) (some (.pv (.lit (.int k i)))) none none = vslk (velem P T) xs i.toNat xs.length := by
  unfold vslice vslk
  simp only [slOf, loOf, hiOf, if_pos h0]
  cases velem P T with
  | none => rfl
  | some e =>
    obtain ⟨a, b, c⟩ := e
    cases a <;> rfl
theorem slice_slc_lohi {P : Program} {T : TypeId} {k k2 : IntKind} {i j : Int} {xs : List (List PV)} (h0 : 0 ≤ i) (h1 : 0 ≤ j) : vslice P T (.pv (.slc xs)) (some (.pv (.lit (.int k i)))) (some (.pv (.lit (.int k2 j)))) none = vslk (velem P T) xs i.toNat j.toNat := by
  unfold vslice vslk
  simp only [slOf, loOf, hiOf, if_pos h0, if_pos h1]
  cases velem P T with
  | none => rfl
  | some e =>
    obtain ⟨a, b, c⟩ := e
    cases a <;> rfl
theorem slice_slc_all {P : Program} {T : TypeId}  {xs : List (List PV)}  : vslice P T (.pv (.slc xs)) none none none = vslk (velem P T) xs 0 xs.length := by
  unfold vslice vslk
  simp only [slOf, loOf, hiOf]
  cases velem P T with
  | none => rfl
  | some e =>
    obtain ⟨a, b, c⟩ := e
    cases a <;> rfl
theorem slice_str_hi {P : Program} {T : TypeId} {k2 : IntKind} {j : Int} {xs : List UInt8} (h1 : 0 ≤ j) : vslice P T (.pv (.str xs)) none (some (.pv (.lit (.int k2 j)))) none = vsls (vkind P T) xs 0 j.toNat := by
  unfold vslice vsls vkind
  simp only [loOf, hiOf, if_pos h1]
  cases P.underlying T with
  | none => rfl
  | some u => cases u <;> rfl
theorem slice_str_lo {P : Program} {T : TypeId} {k : IntKind} {i : Int} {xs : List UInt8} (h0 : 0 ≤ i) : vslice P T (.pv (.str xs)) (some (.pv (.lit (.int k i)))) none none = vsls (vkind P T) xs i.toNat xs.length := by
  unfold vslice vsls vkind
  simp only [loOf, hiOf, if_pos h0]
  cases P.underlying T with
  | none => rfl
  | some u => cases u <;> rfl
theorem slice_str_lohi {P : Program} {T : TypeId} {k k2 : IntKind} {i j : Int} {xs : List UInt8} (h0 : 0 ≤ i) (h1 : 0 ≤ j) : vslice P T (.pv (.str xs)) (some (.pv (.lit (.int k i)))) (some (.pv (.lit (.int k2 j)))) none = vsls (vkind P T) xs i.toNat j.toNat := by
  unfold vslice vsls vkind
  simp only [loOf, hiOf, if_pos h0, if_pos h1]
  cases P.underlying T with
  | none => rfl
  | some u => cases u <;> rfl
theorem slice_str_all {P : Program} {T : TypeId}  {xs : List UInt8}  : vslice P T (.pv (.str xs)) none none none = vsls (vkind P T) xs 0 xs.length := by
  unfold vslice vsls vkind
  simp only [loOf, hiOf]
  cases P.underlying T with
  | none => rfl
  | some u => cases u <;> rfl
theorem vslk_some {e : TypeId} {sz a b : Nat} {xs : List (List PV)} (h1 : a ≤ b) (h2 : b ≤ xs.length) (h3 : xs[0]?.map List.length = some sz) : vslk (some (none, e, sz)) xs a b = some (.pv (.sl ((xs.take b).drop a))) := by
  simp [vslk, h1, h2, h3]
theorem vslk_nil {e : TypeId} {sz : Nat} : vslk (some (none, e, sz)) [] 0 0 = some (.pv (.sl [])) := by
  simp [vslk]
theorem vsls_some {a b : Nat} {xs : List UInt8} (h1 : a ≤ b) (h2 : b ≤ xs.length) : vsls .str xs a b = some (.pv (.str ((xs.take b).drop a))) := by
  simp [vsls, h1, h2]
theorem bin_bool {P : Program} {op : BinOp} {T : TypeId} {a b : Bool} : vbin P op T (.pv (.lit (.bool a))) (.pv (.lit (.bool b))) = vbb op (vkind P T) a b := by
  unfold vbin vbb vkind
  cases P.underlying T with
  | none => cases op <;> rfl
  | some u => cases u <;> cases op <;> rfl
theorem vbb_eql {a b : Bool} : vbb .eql .bool a b = some (.bool (a == b)) := rfl
theorem vbb_neq {a b : Bool} : vbb .neq .bool a b = some (.bool (!(a == b))) := rfl
theorem bin_agg {P : Program} {op : BinOp} {T : TypeId} {xs ys : List DV} : vbin P op T (.agg xs) (.agg ys) = vba op (vt P T) (leaves P 8 T) (P.eqGuardType P.depth T) xs ys := by
  unfold vbin vba
  rfl
theorem vba_eql {n : Nat} {l : List (Nat × Nat)} {xs ys : List DV} : vba .eql (some (some n)) (some l) false xs ys = (allEq xs ys l).map fun b => .bool b := by
  simp only [vba]
  cases allEq xs ys l <;> rfl
theorem vba_neq {n : Nat} {l : List (Nat × Nat)} {xs ys : List DV} : vba .neq (some (some n)) (some l) false xs ys = (allEq xs ys l).map fun b => .bool (!b) := by
  simp only [vba]
  cases allEq xs ys l <;> rfl
theorem pickV_f {x : DV} {b : Bool} : pickV false x (.pv (.lit (.bool b))) = .bool b := by
  cases x with
  | pv p => cases p with
    | lit v => cases v <;> rfl
    | _ => rfl
  | _ => rfl
theorem pickV_t {x : DV} {b : Bool} : pickV true (.pv (.lit (.bool b))) x = .bool b := by
  cases x with
  | pv p => cases p with
    | lit v => cases v <;> rfl
    | _ => rfl
  | _ => rfl
theorem load_tup {P : Program} {hp : Heap} {T : TypeId} {ds : List DV} : vload P hp T (.tup ds) = none := rfl
theorem bin_tupL {P : Program} {op : BinOp} {T : TypeId} {ds : List DV} {y : DV} : vbin P op T (.tup ds) y = none := rfl
theorem bin_tupR {P : Program} {op : BinOp} {T : TypeId} {ds : List DV} {p : PV} : vbin P op T (.pv p) (.tup ds) = none := by
  cases p with
  | lit v => cases v <;> rfl
  | _ => rfl
theorem un_tup {op : UnOp} {ds : List DV} : vun op (.tup ds) = none := by
  cases op <;> rfl
theorem faddr_tup {P : Program} {T : TypeId} {f : Nat} {ds : List DV} : vfieldAddr P T f (.tup ds) = none := rfl
theorem iaddr_tupL {P : Program} {T : TypeId} {ds : List DV} {k : IntKind} {i : Int} : vindexAddr P T (.tup ds) (.pv (.lit (.int k i))) = none := by
  unfold vindexAddr
  cases velem P T with
  | none => rfl
  | some e =>
    obtain ⟨a, b, c⟩ := e
    cases a <;> rfl
theorem iaddr_tupR {P : Program} {T : TypeId} {ds : List DV} {x : DV} : vindexAddr P T x (.tup ds) = none := rfl
theorem viap_none {e : TypeId} {n sz b off : Nat} {i : Int} (h : ¬ (0 ≤ i ∧ i < n)) : viap (some (some n, e, sz)) b off i = none := by
  simp only [viap, if_neg h]
theorem viao_none {e : TypeId} {sz b off len : Nat} {i : Int} (h : ¬ (0 ≤ i ∧ i < len)) : viao (some (none, e, sz)) b sz off len i = none := by
  simp only [viao, true_and, if_neg h]
theorem vias_none {e : Option (Option Nat × TypeId × Nat)} {i : Int} : vias e none i = none := by
  unfold vias
  split <;> simp_all
theorem ptrNo_tup {ds : List DV} : ptrNo (.tup ds) = [] := rfl
theorem ptrNo_any : ptrNo .any = [] := rfl
@[congr] theorem vrun1_congr (P : Program) (all : List Oper) (o : Oper) (r : List Oper) (K : St → Prop) (S : St) {g g' : Option Bool} (h : g = g') : vrun1 P all o r K S g = vrun1 P all o r K S g' := by rw [h]
@[congr] theorem vrun2_congr (P : Program) (all : List Oper) (o : Oper) (r : List Oper) (K : St → Prop) (S : St) (G : Bool) {c c' : Option (FuncId × List DV)} (h : c = c') : vrun2 P all o r K S G c = vrun2 P all o r K S G c' := by rw [h]
@[congr] theorem vrun3_congr (P : Program) (all : List Oper) (o : Oper) (r : List Oper) (K : St → Prop) (S : St) (G : Bool) {x x' : Option (DV × Heap)} (h : x = x') : vrun3 P all o r K S G x = vrun3 P all o r K S G x' := by rw [h]
@[congr] theorem vdr1_congr (P : Program) (all : List Oper) (o : Oper) (r : List Oper) (fs : List (List Nat × Bool)) (K : St → Prop) (S : St) {g g' : Option Bool} (h : g = g') : vdr1 P all o r fs K S g = vdr1 P all o r fs K S g' := by rw [h]
@[congr] theorem vdr2_congr (P : Program) (all : List Oper) (o : Oper) (r : List Oper) (fs : List (List Nat × Bool)) (K : St → Prop) (S : St) (G : Bool) {c c' : Option (FuncId × List DV)} (h : c = c') : vdr2 P all o r fs K S G c = vdr2 P all o r fs K S G c' := by rw [h]
@[congr] theorem vtest_congr (P : Program) (a b : Code) (Q : Exit → St → Prop) (S : St) {c c' : DV} (h : c = c') : vtest P a b Q S c = vtest P a b Q S c' := by rw [h]
@[congr] theorem vbr_congr (P : Program) (a b : Code) (Q : Exit → St → Prop) (S : St) {t t' : Bool} (h : t = t') : vbr P a b Q S t = vbr P a b Q S t' := by rw [h]
@[congr] theorem vfin_congr (n : Nat) (hp : Heap) (R : DV → Heap → Prop) {r r' : Option DV} (h : r = r') : vfin n hp R r = vfin n hp R r' := by rw [h]
@[congr] theorem vlook_congr {b b2 : Bool} (d : DV) (r : List (Nat × DV)) (t : Nat) (h : b = b2) : vlook b d r t = vlook b2 d r t := by rw [h]
@[congr] theorem vfinK_congr (hp : Heap) (R : DV → Heap → Prop) {r r' : Option DV} (h : r = r') : vfinK hp R r = vfinK hp R r' := by rw [h]
@[congr] theorem vdr3_congr (P : Program) (all : List Oper) (o : Oper) (r : List Oper) (fs : List (List Nat × Bool)) (K : St → Prop) (S : St) (G : Bool) {f f' : List Nat × Bool} {x x' : Option (DV × Heap)} (h : f = f') (g : x = x') : vdr3 P all o r fs K S G f x = vdr3 P all o r fs K S G f' x' := by rw [h, g]
@[congr] theorem vfin2_congr (R : DV → Heap → Prop) {r r' : Option DV} {h h' : Option Heap} (a : r = r') (b : h = h') : vfin2 R r h = vfin2 R r' h' := by rw [a, b]
@[congr] theorem vrun_congr (P : Program) (all ops : List Oper) (K : St → Prop) {S S' : St} (h : S = S') : vrun P all ops K S = vrun P all ops K S' := by rw [h]
@[congr] theorem vdr_congr (P : Program) (all ops : List Oper) (fs : List (List Nat × Bool)) (K : St → Prop) {S S' : St} (h : S = S') : vdr P all ops fs K S = vdr P all ops fs K S' := by rw [h]
@[congr] theorem vcode_congr (P : Program) (c : Code) (Q : Exit → St → Prop) {S S' : St} (h : S = S') : vcode P c Q S = vcode P c Q S' := by rw [h]


end Go.V

/-
  V, part 16: how a proved contract is used where a call stands.
-/
namespace Go.V

/-- The contract of a function that only reckons. -/
abbrev Ret (d : DV) : DV → Heap → Prop := fun r h' => h' = [] ∧ r.nums (fun _ => false) = true ∧ r = d

theorem vc_pure {P : Program} {g : FuncId} {args : List DV} {hp : Heap} {K : DV → Heap → Prop} {d : DV} (c : VCalls P g args [] (Ret d)) (ha : DV.nums.go (fun _ => false) args = true) (h : K d hp) : VCalls P g args hp K :=
  (VCalls.pure (R := fun r => r = d) c ha).mono fun r h' e => by obtain ⟨rfl, rfl⟩ := e; exact h

/-- A contract that says no more than a property of the answer. -/
theorem vc_pureR {P : Program} {g : FuncId} {args : List DV} {hp : Heap} {K : DV → Heap → Prop} {R : DV → Prop} (c : VCalls P g args [] fun r h' => h' = [] ∧ r.nums (fun _ => false) = true ∧ R r) (ha : DV.nums.go (fun _ => false) args = true) (h : ∀ r, R r → K r hp) : VCalls P g args hp K :=
  (VCalls.pure c ha).mono fun r h' e => by obtain ⟨rfl, e⟩ := e; exact h r e

theorem vc_lend {P : Program} {g : FuncId} {args args0 : List DV} {hp : Heap} {K : DV → Heap → Prop} {d : DV} (c : VCalls P g args0 [] (Ret d)) (ha : allSome (args.map (frz 0 hp)) = some args0) (hf : d.flat = true) (h : K d hp) : VCalls P g args hp K :=
  (VCalls.lend (R := fun r => r = d) ha (c.mono fun r h' e => ⟨e.1, e.2.2 ▸ hf, e.2.2⟩)).mono fun r h' e => by obtain ⟨rfl, rfl⟩ := e; exact h

theorem vdc_call {P : Program} {g : FuncId} {args : List DV} {G : Bool} {K : DV → Prop} {d : DV} (c : G = true → VCalls P g args [] (Ret d)) (ha : DV.nums.go (fun _ => false) args = true) (hd : d.nums (fun _ => false) = true) (h : K d) : vdc P g args G K :=
  ⟨d, fun hG => (c hG).mono fun _ _ e => ⟨e.1, e.2.2⟩, ha, hd, h⟩

theorem vdc_no (d : DV) {P : Program} {g : FuncId} {args : List DV} {K : DV → Prop} (ha : DV.nums.go (fun _ => false) args = true) (hd : d.nums (fun _ => false) = true) (h : K d) : vdc P g args false K :=
  ⟨d, fun hG => by simp at hG, ha, hd, h⟩

theorem vcg_pure {P : Program} {g : FuncId} {args : List DV} {hp : Heap} {G : Bool} {K : DV → Heap → Prop} {d : DV} (c : G = true → VCalls P g args [] (Ret d)) (ha : DV.nums.go (fun _ => false) args = true) (h : K (.opt G d) hp) : VCallG P g args hp G K :=
  .inl ⟨d, fun hG => (VCalls.pure (R := fun r => r = d) (c hG) ha).mono fun _ _ e => ⟨e.2, e.1⟩, h⟩

theorem vcg_no {P : Program} {g : FuncId} {args : List DV} {hp : Heap} {K : DV → Heap → Prop} (h : K (.tup []) hp) : VCallG P g args hp false K :=
  .inr ⟨fun hG => by simp at hG, fun _ => h⟩
theorem vcg_yes {P : Program} {g : FuncId} {args : List DV} {hp : Heap} {K : DV → Heap → Prop} (h : VCalls P g args hp fun r h' => K (.opt true r) h') : VCallG P g args hp true K :=
  .inr ⟨fun _ => h, fun hG => by simp at hG⟩

end Go.V

/-
  V, part 17: forgetting blocks in the middle: the blocks that are kept get new numbers.
-/
namespace Go.V

/-- S' is S with the blocks 'keep' alone, in that order. -/
structure Gc (keep : List Nat) (S S' : St) : Prop where
  nt : S'.nt = S.nt
  base : S'.base = S.base
  low : ∀ k, k < S.base → keep[k]? = some k
  nodup : keep.Nodup
  len : S'.hp.length = keep.length
  hp : ∀ (i k : Nat), keep[i]? = some k → ∃ B B', S.hp[k]? = some B ∧ S'.hp[i]? = some B' ∧ B'.ty = B.ty ∧ B'.live = B.live ∧ B'.cells = B.cells.map (DV.ren fun k => keep.idxOf k) ∧ (B.live = true → DV.nums.go keep.contains B.cells = true)
  tm : ∀ t, V.look S'.tm t = .any ∨ (V.look S'.tm t = (V.look S.tm t).ren (fun k => keep.idxOf k) ∧ (V.look S.tm t).nums keep.contains = true)

theorem Sim.gc {O : Org} {β : Map} {S S' : St} {a : Act} {w : World} {keep : List Nat} (h : Sim O β S a w) (g : Gc keep S S') : ∃ β', Sim O β' S' a w := by
  let β' : Map := ⟨fun i => (keep[i]?).bind β.f, β.X⟩
  have hO : O.hp.length = S.base := h.base
  have back : ∀ {i : Nat} {B' : Blk}, S'.hp[i]? = some B' → ∃ k B, keep[i]? = some k ∧ S.hp[k]? = some B ∧ B'.ty = B.ty ∧ B'.live = B.live ∧ B'.cells = B.cells.map (DV.ren fun k => keep.idxOf k) ∧ (B.live = true → DV.nums.go keep.contains B.cells = true) ∧ β'.f i = β.f k := by
    intro i B' hi
    have hlt : i < keep.length := by rw [← g.len]; exact (List.getElem?_eq_some_iff.1 hi).1
    have hk : keep[i]? = some keep[i] := List.getElem?_eq_getElem hlt
    obtain ⟨B, B'', h1, h2, h3, h4, h5, h6⟩ := g.hp i _ hk
    rw [hi] at h2
    cases h2
    exact ⟨_, B, hk, h1, h3, h4, h5, h6, by simp [β', hk]⟩
  have hsub : ∀ b, live β' S'.hp b → live β S.hp b := by
    rintro b ⟨i, B', h1, h2, h3⟩
    obtain ⟨k, B, _, k2, _, k4, _, _, k7⟩ := back h1
    exact ⟨k, B, k2, by rw [← k4]; exact h2, by rw [← k7]; exact h3⟩
  have him : ∀ b, img β' S'.hp b → img β S.hp b := fun b hb => hb.imp id (hsub b)
  have hσ : ∀ k, keep.contains k = true → k < S.hp.length → keep.idxOf k < S'.hp.length ∧ β'.f (keep.idxOf k) = β.f k := by
    intro k hk _
    have hm : k ∈ keep := by simpa using hk
    have hlt := List.idxOf_lt_length_of_mem hm
    refine ⟨by rw [g.len]; exact hlt, ?_⟩
    simp [β', List.getElem?_eq_getElem hlt]
  refine ⟨β', h.defers, by rw [g.nt]; exact h.size, fun t => ?_, ?_, ?_, h.base.trans g.base.symm⟩
  · rcases g.tm t with e | ⟨e, hn⟩
    · rw [e]; exact .any _
    · rw [e]; exact RelD.ren hσ him (h.tm t) hn
  · have hh := h.heap
    refine ⟨fun i B' b h1 h2 h3 => ?_, fun i B' h1 h2 h3 => ?_, fun i j B B' b h1 h2 h3 h4 h5 h6 => ?_, fun i B' b h1 h2 h3 => ?_, hh.bound⟩
    · obtain ⟨k, B, k1, k2, k3, k4, k5, k6, k7⟩ := back h1
      rw [k7] at h3
      have hl : B.live = true := by rw [← k4]; exact h2
      obtain ⟨C, c1, c2, c3⟩ := hh.blk k B b k2 hl h3
      refine ⟨C, by rw [k3]; exact c1, by rw [k5, List.length_map]; exact c2, fun j d hd => ?_⟩
      rw [k5, List.getElem?_map] at hd
      cases hx : B.cells[j]? with
      | none => simp [hx] at hd
      | some x =>
        simp [hx] at hd
        subst hd
        obtain ⟨o1, o2⟩ := c3 j x hx
        refine ⟨?_, RelD.ren hσ him o2 (DV.nums_go (k6 hl) j x hx)⟩
        cases x <;> first | rfl | exact o1
    · obtain ⟨k, B, k1, k2, k3, k4, k5, k6, k7⟩ := back h1
      rw [k7] at h3
      rw [k5, hh.none k B k2 (by rw [← k4]; exact h2) h3]; rfl
    · obtain ⟨k, D, k1, k2, k3, k4, k5, k6, k7⟩ := back h1
      obtain ⟨k', D', l1, l2, l3, l4, l5, l6, l7⟩ := back h2
      rw [k7] at h5
      rw [l7] at h6
      have := hh.inj k k' D D' b k2 l2 (by rw [← k4]; exact h3) (by rw [← l4]; exact h4) h5 h6
      subst this
      obtain ⟨hi, e1⟩ := List.getElem?_eq_some_iff.1 k1
      obtain ⟨hj, e2⟩ := List.getElem?_eq_some_iff.1 l1
      exact (List.getElem_inj g.nodup).1 (e1.trans e2.symm)
    · obtain ⟨k, B, k1, k2, k3, k4, k5, k6, k7⟩ := back h1
      rw [k7] at h3
      exact hh.avoid k B b k2 (by rw [← k4]; exact h2) h3
  · have ev := h.evo
    have hlow : ∀ k, k < O.hp.length → β'.f k = β.f k := fun k hk => by simp [β', g.low k (by omega)]
    refine ⟨ev.os, ev.tape, ev.output, ev.size, ?_, fun k hk => (hlow k hk).trans (ev.beta k hk), ev.same, ev.shape, fun b hb hl => ev.im b hb (hsub b hl), ev.X⟩
    rw [g.len]
    by_cases h0 : O.hp.length = 0
    · omega
    · have := g.low (O.hp.length - 1) (by omega)
      have := (List.getElem?_eq_some_iff.1 this).1
      omega

/-- Forget, or renumber. -/
def Weak (S S' : St) : Prop := Le S S' ∨ ∃ keep, Gc keep S S'

theorem Sim.weak {O : Org} {β : Map} {S S' : St} {a : Act} {w : World} (h : Sim O β S a w) (g : Weak S S') : ∃ β', Sim O β' S' a w := by
  rcases g with g | ⟨keep, g⟩
  · exact ⟨β, h.le g⟩
  · exact h.gc g

/-- A loop whose rounds may leave blocks behind. -/
theorem vloopW {P : Program} {c : Code} {Q : Exit → St → Prop} {S : St} {ι : Type} (I : ι → St) (μ : ι → Nat) (i₀ : ι) (h₀ : Weak S (I i₀))
    (round : ∀ i, vcode P c (onNormal Q fun S' => ∃ j, μ j < μ i ∧ Weak S' (I j)) (I i)) : VLoop P c Q S := by
  intro O β a w hs b k cs
  have key : ∀ n β i a w, μ i = n → Sim O β (I i) a w →
      ∃ e a' w', lift O Q e a' w' ∧ Arrives P (lone (b.at a (.code c :: .inLoop c :: k)) cs w) b k cs e a' w' := by
    intro n
    induction n using Nat.strongRecOn with
    | _ n ih =>
      intro β i a w hn hs
      obtain ⟨e, a₁, w₁, hq, harr⟩ := vcode_sound c _ _ (round i) O β a w hs b (.inLoop c :: k) cs
      obtain ⟨β₁, S₁, hs₁, hq⟩ := hq
      cases e with
      | normal =>
        obtain ⟨j, hlt, hle⟩ := hq
        obtain ⟨β₂, hs₂⟩ := hs₁.weak hle
        obtain ⟨e₂, a₂, w₂, hq₂, harr₂⟩ := ih (μ j) (hn ▸ hlt) β₂ j a₁ w₁ rfl hs₂
        exact ⟨e₂, a₂, w₂, hq₂, .of_steps (Steps.trans harr (.one step_inLoop)) harr₂⟩
      | exit id => exact ⟨_, a₁, w₁, ⟨β₁, S₁, hs₁, hq⟩, .pass (x := .inLoop c) rfl (fun _ _ => .inl (by simp)) harr⟩
      | goto l => exact ⟨_, a₁, w₁, ⟨β₁, S₁, hs₁, hq⟩, .pass (x := .inLoop c) rfl (fun _ _ => .inl (by simp)) harr⟩
      | ret => exact ⟨_, a₁, w₁, ⟨β₁, S₁, hs₁, hq⟩, .pass (x := .inLoop c) rfl (fun _ _ => .inl (by simp)) harr⟩
      | panic ch => exact ⟨_, a₁, w₁, ⟨β₁, S₁, hs₁, hq⟩, .pass (x := .inLoop c) rfl (fun _ _ => .inl (by simp)) harr⟩
      | outgrown => exact ⟨_, a₁, w₁, ⟨β₁, S₁, hs₁, hq⟩, .pass (x := .inLoop c) rfl (fun _ _ => .inl (by simp)) harr⟩
  obtain ⟨β₀, hs₀⟩ := hs.weak h₀
  obtain ⟨e, a', w', hq, harr⟩ := key _ β₀ i₀ a w rfl hs₀
  exact ⟨e, a', w', hq, .of_steps (.one step_loop) harr⟩

/-! ### The same, to be reckoned -/
mutual
theorem ren_id (σ : Nat → Nat) : ∀ (d : DV), d.nums (fun _ => false) = true → d.ren σ = d
  | .pv _, _ => rfl
  | .ptr _ _, h => by simp [DV.nums] at h
  | .own _ _ _ _, h => by simp [DV.nums] at h
  | .ip _, _ => rfl
  | .any, _ => rfl
  | .agg cs, h => by simp only [DV.ren]; rw [ren_id_go σ cs h]
  | .tup cs, h => by simp only [DV.ren]; rw [ren_id_go σ cs h]
  | .fn f a b, h => by
    simp only [DV.nums, Bool.and_eq_true] at h
    simp only [DV.ren]; rw [ren_id_go σ a h.1, ren_id_go σ b h.2]
  | .opt c d, h => by simp only [DV.ren]; rw [ren_id σ d h]
theorem ren_id_go (σ : Nat → Nat) : ∀ (ds : List DV), DV.nums.go (fun _ => false) ds = true → DV.ren.go σ ds = ds
  | [], _ => rfl
  | d :: r, h => by
    simp only [DV.nums.go, Bool.and_eq_true] at h
    simp only [DV.ren.go]; rw [ren_id σ d h.1, ren_id_go σ r h.2]
end
mutual
theorem nums_mono (p : Nat → Bool) : ∀ (d : DV), d.nums (fun _ => false) = true → d.nums p = true
  | .pv _, _ => rfl
  | .ptr _ _, h => by simp [DV.nums] at h
  | .own _ _ _ _, h => by simp [DV.nums] at h
  | .ip _, _ => rfl
  | .any, _ => rfl
  | .agg cs, h => nums_mono_go p cs h
  | .tup cs, h => nums_mono_go p cs h
  | .fn f a b, h => by
    simp only [DV.nums, Bool.and_eq_true] at h ⊢
    exact ⟨nums_mono_go p a h.1, nums_mono_go p b h.2⟩
  | .opt c d, h => nums_mono p d h
theorem nums_mono_go (p : Nat → Bool) : ∀ (ds : List DV), DV.nums.go (fun _ => false) ds = true → DV.nums.go p ds = true
  | [], _ => rfl
  | d :: r, h => by
    simp only [DV.nums.go, Bool.and_eq_true] at h ⊢
    exact ⟨nums_mono p d h.1, nums_mono_go p r h.2⟩
end

def tmGc (keep : List Nat) (tm : List (Nat × DV)) : List (Nat × DV) → Prop
  | [] => True
  | (t, d) :: r => (d = (V.look tm t).ren (fun k => keep.idxOf k) ∧ (V.look tm t).nums keep.contains = true) ∧ tmGc keep tm r

theorem tmGc_look {keep : List Nat} {tm : List (Nat × DV)} : ∀ {tm' : List (Nat × DV)}, tmGc keep tm tm' → ∀ t, V.look tm' t = .any ∨ (V.look tm' t = (V.look tm t).ren (fun k => keep.idxOf k) ∧ (V.look tm t).nums keep.contains = true)
  | [], _, t => .inl rfl
  | (a, d) :: r, h, t => by
    simp only [V.look]
    split
    · rename_i e; subst e; exact .inr h.1
    · exact tmGc_look h.2 t

/-- Cells in which no block is named, or whose numbers change. -/
def cellsGc (keep : List Nat) (cs cs' : List DV) : Prop := (DV.nums.go (fun _ => false) cs = true ∧ cs' = cs) ∨ (cs' = cs.map (DV.ren fun k => keep.idxOf k) ∧ DV.nums.go keep.contains cs = true)

def hpGc (keep : List Nat) (hp : Heap) : List Nat → Heap → Prop
  | [], [] => True
  | k :: r, B' :: r' => (∃ B, hp[k]? = some B ∧ B'.ty = B.ty ∧ B'.live = B.live ∧ cellsGc keep B.cells B'.cells) ∧ hpGc keep hp r r'
  | _, _ => False

theorem hpGc_get {keep : List Nat} {hp : Heap} : ∀ {l : List Nat} {hp' : Heap}, hpGc keep hp l hp' → hp'.length = l.length ∧ ∀ (i k : Nat), l[i]? = some k → ∃ B B', hp[k]? = some B ∧ hp'[i]? = some B' ∧ B'.ty = B.ty ∧ B'.live = B.live ∧ B'.cells = B.cells.map (DV.ren fun k => keep.idxOf k) ∧ (B.live = true → DV.nums.go keep.contains B.cells = true)
  | [], [], _ => ⟨rfl, fun i k h => by simp at h⟩
  | [], _ :: _, h => h.elim
  | _ :: _, [], h => h.elim
  | k0 :: r, B' :: r', h => by
    obtain ⟨⟨B, h1, h2, h3, h4⟩, h5⟩ := h
    obtain ⟨g1, g2⟩ := hpGc_get h5
    refine ⟨by simp [g1], fun i k hk => ?_⟩
    cases i with
    | zero =>
      simp at hk
      subst hk
      refine ⟨B, B', h1, rfl, h2, h3, ?_⟩
      rcases h4 with ⟨n, e⟩ | ⟨e, n⟩
      · exact ⟨by rw [e, ← DV.ren_go, ren_id_go _ _ n], fun _ => nums_mono_go _ _ n⟩
      · exact ⟨e, fun _ => n⟩
    | succ i => exact g2 i k (by simpa using hk)

theorem gc_of {keep : List Nat} {S S' : St} (h1 : S'.nt = S.nt) (h2 : S'.base = S.base) (h3 : keep.take S.base = List.range S.base) (h4 : keep.Nodup) (h5 : hpGc keep S.hp keep S'.hp) (h6 : tmGc keep S.tm S'.tm) : Weak S S' :=
  .inr ⟨keep, h1, h2, fun k hk => by
    have : (keep.take S.base)[k]? = some k := by rw [h3]; simp [hk]
    rw [List.getElem?_take] at this
    simpa [hk] using this, h4, (hpGc_get h5).1, (hpGc_get h5).2, tmGc_look h6⟩

/-- A slice whose capacity is known is a slice. -/
theorem RelD.slc_sl {w : World} {β : Map} {hp : Heap} {xs : List (List PV)} {v : Value} (h : RelD w β hp (.pv (.slc xs)) v) : RelD w β hp (.pv (.sl xs)) v := by
  cases h with
  | pv _ _ h => cases h with
    | slc _ a sz val h1 h2 h3 h4 h5 => exact .pv _ _ (.sl xs a xs.length sz val (Nat.le_refl _) h1 h2 h3 h4 h5)

theorem VCalls.slc_sl {P : Program} {g : FuncId} {args : List DV} {h : Heap} {R R' : DV → Heap → Prop} (c : VCalls P g args h R) (hr : ∀ r h', R r h' → R' r h' ∨ ∃ xs, r = .pv (.slc xs) ∧ R' (.pv (.sl xs)) h') : VCalls P g args h R' :=
  ⟨c.fn, fun w β vs hh ha => (c.run w β vs hh ha).mono fun _ _ ⟨v, r, h', β', a, b, c, d, k⟩ => by
    rcases hr _ _ k with k | ⟨xs, e, k2⟩
    · exact ⟨v, r, h', β', a, b, c, d, k⟩
    · subst e; exact ⟨v, _, h', β', a, b, c, d.slc_sl, k2⟩⟩

end Go.V

/-
  V, part 18: from a law's contract to its row: arguments that are read, and what lies behind the call.
-/
namespace Go.V
open Go.RowKit Go.WideShapes Go.ChangeShapes

def β0 : Map := ⟨fun _ => none, fun _ => False⟩
theorem heapRel0 (w : World) : HeapRel w β0 [] := ⟨by simp, by simp, by simp, by simp, fun _ h => h.elim⟩

/-- What a law's walk says: true; and of what was there nothing has turned. -/
theorem law_walk {P : Program} {g : FuncId} {ds : List DV} {vs : Array Value} {w : World} (c : VCalls P g ds [] (Ret (.bool true))) (h : RelL w β0 [] ds vs) :
    Calls P g vs w fun e w' => e = .returned (.bool true) ∧ Below w.heap.size w w' := by
  refine (c.run w β0 vs (heapRel0 w) h).mono fun e w' ⟨v, r, h', β', he, ev, _, hr, _, _, hd⟩ => ?_
  subst hd
  obtain rfl := relD_lit hr
  exact ⟨he, ev.os, ev.tape, ev.output, ev.size, fun k hk => ev.same k hk (by rintro ⟨_, _, h, _⟩; simp at h)⟩

section
variable {H : Type} {enc : TypeId × Value → H} {P : Program}

theorem trodAll_below (hl : laidOutB P = true) {W W' : World} (hb : Below W.heap.size W W') {sp : Nat → Bool} : ∀ {ts : List TypeId} {vs : List Value} {ds : List (DataW H)} {ps : List MemPlace},
    (ts.all fun t => P.readableRec t && decide (t < P.types.size)) = true → DataW.TrodAll enc P W 0 (fun _ => true) true ts vs ds ps → (∀ x ∈ ps, x.block < W.heap.size) → (∀ x ∈ ps, sp x.block = true) → DataW.TrodAll enc P W' 0 sp true ts vs ds ps
  | [], _, _, _, _, h, _, _ => by
    obtain ⟨rfl, rfl, rfl⟩ := trodAll_nil h
    exact rfl
  | t :: ts, _, _, _, hr, h, hlt, hs => by
    obtain ⟨v, vs1, d, ds1, a, b, rfl, rfl, rfl, h1, h2⟩ := trodAll_cons h
    simp only [List.all_cons, Bool.and_eq_true, decide_eq_true_eq] at hr
    exact ⟨a, b, WideElems.Trod_stays hl hr.1.1 hr.1.2 h1 (fun x hx => hb.same (hlt x (List.mem_append_left _ hx))) (fun x hx => hs x (List.mem_append_left _ hx)),
      trodAll_below hl hb (by simpa using hr.2) h2 (fun x hx => hlt x (List.mem_append_right _ hx)) (fun x hx => hs x (List.mem_append_right _ hx)), rfl⟩

/-- The row's last step of a law. -/
theorem law_post {f : Func} {s : ChangeSpec} {apart fresh handsOn again : Bool} {W W' : World} {args : Array Value} {ds gs : List (DataW H)} {before : List MemPlace} {Tb : TypeId}
    (hW : DataW.Whole enc P f.params.toList s.vars apart W args.toList ds gs before) (hl : laidOutB P = true)
    (hts : (f.params.toList.all fun t => P.readableRec t && decide (t < P.types.size)) = true)
    (hvs : s.vars = []) (hres : f.resultTypes = #[Tb]) (hTb : P.underlying Tb = some .bool)
    (hr : (s.fn H ds).results = [.lit (.bool true)]) (ha : (s.fn H ds).args = ds) (hv : (s.fn H ds).vars = [])
    (hb : Below W.heap.size W W') : s.post enc P f apart fresh handsOn again W args (.bool true) W' := by
  have hlt : ∀ p ∈ before, p.block < W.heap.size := fun p hp => hW.lt p hp
  have hold : ∀ p ∈ before, (fun b => decide (b < W.heap.size)) p.block = true := fun p hp => by simpa using hlt p hp
  have hW2 := hW
  obtain ⟨p, q, hA, hV, hpq, hz, hn⟩ := hW2
  rw [hvs] at hV
  obtain ⟨rfl, rfl⟩ := trodVars_none hV
  have hpb : before = p := by simpa using hpq
  subst hpb
  have hargs : ∀ sp : Nat → Bool, (∀ x ∈ before, sp x.block = true) → DataW.TrodAll enc P W' 0 sp true f.params.toList args.toList (s.fn H (ds ++ [])).args before := fun sp hs => by
    rw [List.append_nil, ha]
    exact trodAll_below hl hb hts hA hlt hs
  have hres' : ∀ (b : Nat) (sp : Nat → Bool) (hd : Bool), DataW.TrodAll enc P W' b sp hd f.resultTypes.toList ((Value.bool true).resultList f.resultTypes.size) (s.fn H (ds ++ [])).results [] := fun b sp hd => by
    rw [List.append_nil, hr, hres]
    exact trodAll_mk1 (shut_bool hTb true)
  have hvars : ∀ sp : Nat → Bool, DataW.TrodVars enc P W' sp s.vars (s.fn H (ds ++ [])).vars [] := fun sp => by
    rw [List.append_nil, hv, hvs]; exact rfl
  refine ⟨ds, [], before, [], before, [], hW, hres' _ _ _, hargs _ hold, hvars _, World.keptBut_mono (fun p hp => ⟨hp, ?_⟩) (hb.frame (· ∈ before)), fun _ => ?_⟩
  · simpa using hp
  · refine ⟨ok_one hres rfl (by simp [Value.okWide, hTb, Cell.okWide, Cell.ok]), _, _, ([] ++ before) ++ [], ⟨[] ++ before, [], trodAll_append (hargs _ (fun _ _ => rfl)) (hres' _ _ _), hvars _, rfl, ?_, ?_⟩, ?_⟩
    · intro b off hp
      have hin : MemPlace.cell b off ∈ before := by simpa using hp
      rw [hb.frozen (hlt _ hin)]
      exact hz b off hin
    · intro ha
      simpa using hn ha
    · intro p hp _
      simpa using hp

/-! ### Arguments -/
theorem arg_int {r : Reach} {b0 : Nat} {W : World} {t : TypeId} {k : IntKind} {v : Value} {d : DataW H} {ps : List MemPlace} (ht : P.underlying t = some (.int k)) (hval : Value.okWide P W r b0 t v) (h : DataW.Trod enc P W 0 (fun _ => true) true t v d ps) :
    ∃ n : Int, RelD W β0 [] (.int k n) v ∧ (Lit.int k n).wf = true := by
  obtain ⟨n, rfl, _, _, hw⟩ := open_int ht hval h
  exact ⟨n, .pv _ _ (.lit _ rfl), hw⟩

theorem arg_bool {r : Reach} {b0 : Nat} {W : World} {t : TypeId} {v : Value} {d : DataW H} {ps : List MemPlace} (ht : P.underlying t = some .bool) (hval : Value.okWide P W r b0 t v) (h : DataW.Trod enc P W 0 (fun _ => true) true t v d ps) :
    ∃ b : Bool, RelD W β0 [] (.bool b) v := by
  obtain ⟨b, rfl, _, _⟩ := open_bool ht hval h
  exact ⟨b, .pv _ _ (.lit _ rfl)⟩

theorem arg_str {r : Reach} {b0 : Nat} {W : World} {t : TypeId} {v : Value} {d : DataW H} {ps : List MemPlace} (ht : P.underlying t = some .string) (hval : Value.okWide P W r b0 t v) (h : DataW.Trod enc P W 0 (fun _ => true) true t v d ps) :
    ∃ l : List UInt8, RelD W β0 [] (.pv (.str l)) v ∧ l.length ≤ maxLen := by
  obtain ⟨s, rfl, _, _, hw⟩ := ChangeMaps.open_string ht hval h
  exact ⟨s.data.toList, .pv _ _ (.str _), by simpa using hw⟩

def su8 (l : List UInt8) : List (List PV) := l.map fun b => [.lit (.int .u8 b.toNat)]

theorem hlt_of {W : World} {a : Addr} {v : Value} (h : W.cell? a = some v) : a.block < W.heap.size := by
  by_cases hb : a.block < W.heap.size
  · exact hb
  · have : W.heap[a.block]? = none := by simp; omega
    simp [World.cell?, this] at h

theorem arg_u8s {r : Reach} {b0 : Nat} {W : World} {t e : TypeId} {v : Value} {d : DataW H} {ps : List MemPlace} (ht : P.underlying t = some (.slice e)) (he : P.underlying e = some (.int .u8)) (hc : P.cellsOf e = 1)
    (hval : Value.okWide P W r b0 t v) (h : DataW.Trod enc P W 0 (fun _ => true) true t v d ps) :
    ∃ l : List UInt8, RelD W β0 [] (.pv (.sl (su8 l))) v ∧ l.length ≤ maxLen := by
  obtain ⟨a0, len, cap, rfl⟩ := okWide_slice ht hval
  obtain ⟨fuel, hf⟩ := h
  rcases open_ints ht he hc hf with ⟨h1, _⟩ | ⟨a, len', cap', zs, h1, _, hl, hm, hz, _, hcell, hwf⟩
  · simp [Value.cells] at h1
    obtain ⟨rfl, rfl, rfl⟩ := h1
    exact ⟨[], .pv _ _ (.sl [] none 0 1 (fun _ _ => undef) (Nat.le_refl _) (Nat.zero_le _) (by simp) (by simp) (by simp) (by simp)), by simp⟩
  · simp [Value.cells] at h1
    obtain ⟨rfl, rfl, rfl⟩ := h1
    simp only [if_true] at hz
    have hsp : a.spot = none := by
      simp [Value.okWide, ht, Cell.okWide, Cell.ok, World.has] at hval
      exact hval.2.2.2.1
    have hwf' : ∀ i, i < zs.length → 0 ≤ zs.getD i 0 ∧ zs.getD i 0 ≤ 255 := fun i hi => by
      have := hwf _ (List.getElem_mem hi)
      have this : 0 ≤ zs[i] ∧ zs[i] ≤ 255 := by
        simp only [Lit.wf, Bool.and_eq_true, decide_eq_true_eq] at this
        exact this
      rw [List.getD_eq_getElem?_getD, List.getElem?_eq_getElem hi, Option.getD_some]
      exact this
    let l : List UInt8 := (zs.take len).map fun n => UInt8.ofNat n.toNat
    have hll : l.length = len := by simp [l, hz]; omega
    have hgl : ∀ i, i < len → (su8 l)[i]? = some [.lit (.int .u8 (zs.getD i 0))] := fun i hi => by
      have hi' : i < zs.length := by omega
      have := hwf' i hi'
      rw [List.getD_eq_getElem?_getD, List.getElem?_eq_getElem hi', Option.getD_some] at this ⊢
      simp only [su8, l, List.map_map, List.getElem?_map, List.getElem?_take, hi, if_true, List.getElem?_eq_getElem hi', Option.map_some, Function.comp]
      have e : ((UInt8.ofNat (zs[i].toNat)).toNat : Int) = zs[i] := by
        rw [UInt8.toNat_ofNat']; omega
      rw [e]
    have hsl : (su8 l).length = len := by simp [su8, hll]
    have hat : ∀ i, i < len → ∃ ad, some a = some ad ∧ ad.block < W.heap.size ∧ ¬ img β0 [] ad.block ∧ W.cell? (at_ ad (i * 1 + 0)) = some (.int .u8 (zs.getD i 0)) := fun i hi => by
      have h := hcell i (by omega)
      have hs := World.cell?_spot h
      refine ⟨a, rfl, ?_, ?_, ?_⟩
      · have := hlt_of h
        obtain ⟨b, off, sp⟩ := a
        simp only at hsp
        subst hsp
        rw [add_plain] at this
        exact this
      · rintro (h | ⟨_, _, h, _⟩)
        · exact h
        · simp at h
      · have e : at_ a (i * 1 + 0) = a.add i := by
          obtain ⟨b, off, sp⟩ := a
          simp only at hsp
          subst hsp
          rw [add_plain]
          simp [at_]
        rw [e]; exact h
    refine ⟨l, .pv _ _ ?_, by omega⟩
    have key : RelP W (img β0 []) (.sl (su8 l)) (.slice (some a) (su8 l).length cap) := by
      refine .sl (su8 l) (some a) cap 1 (fun i _ => .int .u8 (zs.getD i 0)) (by omega) hm (fun i c hi => ?_) (fun ad had => ?_) (fun i j c d hi hj => ?_) (fun i j c d hi hj => ?_)
      · have hlt : i < len := by rw [← hsl]; exact (List.getElem?_eq_some_iff.1 hi).1
        rw [hgl i hlt] at hi; cases hi; rfl
      · cases had
        exact hsp
      · have hlt : i < len := by rw [← hsl]; exact (List.getElem?_eq_some_iff.1 hi).1
        rw [hgl i hlt] at hi; cases hi
        cases j with
        | zero => exact hat i hlt
        | succ j => simp at hj
      · have hlt : i < len := by rw [← hsl]; exact (List.getElem?_eq_some_iff.1 hi).1
        rw [hgl i hlt] at hi; cases hi
        cases j with
        | zero => simp at hj; subst hj; exact .lit _ rfl
        | succ j => simp at hj
    rw [hsl] at key
    exact key
end

structure RelOf (W : World) where
  d : DV
  v : Value
  h : RelD W β0 [] d v
theorem relL_args {W : World} (l : List (RelOf W)) : RelL W β0 [] (l.map (·.d)) (l.map (·.v)).toArray := by
  refine ⟨by simp, fun i d hi => ?_⟩
  rw [List.getElem?_map] at hi
  cases h : l[i]? with
  | none => simp [h] at hi
  | some r => simp [h] at hi; subst hi; simpa [Array.getD_eq_getD_getElem?, h] using r.h
/-- A struct or an array of whole numbers of one kind. -/
theorem arg_nums {P : Program} {r : Reach} {b0 : Nat} {W : World} {t : TypeId} {k : IntKind} {v : Value} {ts : List TypeId} (ht : (∃ fs, P.underlying t = some (.struct fs)) ∨ ∃ n e, P.underlying t = some (.array n e))
    (hc : P.cellTypes P.depth t = some ts) (hn : P.cellsOf t = ts.length) (hall : ∀ u ∈ ts, P.underlying u = some (.int k)) (hval : Value.okWide P W r b0 t v) :
    ∃ l : List Int, l.length = ts.length ∧ RelD W β0 [] (.agg (l.map fun n => .int k n)) v ∧ ∀ n ∈ l, (Lit.int k n).wf = true := by
  have h : ∃ cs, v = .agg cs ∧ cs.size = P.cellsOf t ∧ Row.okWide P W r b0 t cs := by
    rcases ht with ⟨fs, ht⟩ | ⟨n, e, ht⟩ <;> (simp only [Value.okWide, ht] at hval; exact hval)
  obtain ⟨cs, rfl, hsz, ts', hts, _, hcell⟩ := h
  rw [hc] at hts
  cases hts
  have each : ∀ i, i < cs.size → ∃ n : Int, cs[i]? = some (.int k n) ∧ (Lit.int k n).wf = true := by
    intro i hi
    obtain ⟨u, hu, hok⟩ := hcell i cs[i] (by simp [hi])
    have hm : u ∈ ts := List.mem_of_getElem? hu
    simp only [Cell.okWide, hall u hm] at hok
    generalize hx : cs[i] = x at hok
    have hx' : cs[i]? = some x := by rw [← hx]; simp [hi]
    cases x <;> simp only [Cell.ok, hall u hm] at hok
    obtain ⟨rfl, hok⟩ := hok
    exact ⟨_, hx', by simp only [Lit.wf, Bool.and_eq_true, decide_eq_true_eq]; exact hok⟩
  let f : Nat → Int := fun i => match cs[i]? with | some (.int _ n) => n | _ => 0
  have hf : ∀ i, i < cs.size → cs[i]? = some (.int k (f i)) ∧ (Lit.int k (f i)).wf = true := by
    intro i hi
    obtain ⟨n, h1, h2⟩ := each i hi
    have : f i = n := by simp only [f, h1]
    rw [this]; exact ⟨h1, h2⟩
  refine ⟨(List.range cs.size).map f, by simp [hsz, hn], .agg _ _ (by simp) (fun i d hi => ?_), fun n hn => ?_⟩
  · rw [List.getElem?_map, List.getElem?_map] at hi
    by_cases hlt : i < cs.size
    · rw [List.getElem?_range hlt] at hi
      simp at hi
      subst hi
      have e : cs.getD i undef = .int k (f i) := by rw [Array.getD_eq_getD_getElem?, (hf i hlt).1]; rfl
      rw [e]
      exact .pv _ _ (.lit _ rfl)
    · rw [List.getElem?_eq_none (by simp; omega)] at hi
      simp at hi
  · obtain ⟨i, hi, rfl⟩ := List.mem_map.1 hn
    exact (hf i (by simpa using hi)).2
theorem wf_u8 {n : Int} (h : (Lit.int .u8 n).wf = true) : 0 ≤ n ∧ n ≤ 255 := by
  simp only [Lit.wf, Bool.and_eq_true, decide_eq_true_eq] at h; exact h
theorem wf_u16 {n : Int} (h : (Lit.int .u16 n).wf = true) : 0 ≤ n ∧ n ≤ 65535 := by
  simp only [Lit.wf, Bool.and_eq_true, decide_eq_true_eq] at h; exact h
theorem wf_i64 {n : Int} (h : (Lit.int .i64 n).wf = true) : -9223372036854775808 ≤ n ∧ n ≤ 9223372036854775807 := by
  simp only [Lit.wf, Bool.and_eq_true, decide_eq_true_eq] at h; exact h
theorem len_in {n : Nat} (h : n ≤ maxLen) : n ≤ 9223372036854775807 := by unfold maxLen at h; omega
end Go.V
