/-
  V, part 34: calls with slices of the call's own whose room is looked at; slices.overlaps; a result that gets a number of its own.
-/
import Derived.Test.YtjjjlkjhojdnnaaV2
import Derived.Lib.Overlaps
import Derived.Carry
namespace Go.V
open Go.Lib

theorem relL_head {w : World} {β : Map} {hp : Heap} {d : DV} {ds : List DV} {vs : Array Value} (h : RelL w β hp (d :: ds) vs) : RelD w β hp d (vs.getD 0 undef) := h.2 0 d rfl

/-- A slice of the caller's, its room named. -/
theorem VCalls.room {P : Program} {g : FuncId} {k sz off len : Nat} {rest : List DV} {hp : Heap} {R : DV → Heap → Prop} (h0 : 0 < len) (h : ∀ cap, len ≤ cap → VCalls P g (.ownc k sz off len cap :: rest) hp R) : VCalls P g (.own k sz off len :: rest) hp R := by
  refine ⟨fun w β vs hh ha => ?_⟩
  have h1 := relL_head ha
  have key : ∃ cap, len ≤ cap ∧ RelD w β hp (.ownc k sz off len cap) (vs.getD 0 undef) := by
    generalize vs.getD 0 undef = v at h1
    cases h1 with
    | own0 => omega
    | own _ _ _ _ cap b C T m hk hm h1 h2 h3 h4 => exact ⟨cap, h1, .ownc _ _ _ _ _ b off C T m hk hm h1 h2 h3 h4 (fun _ => rfl)⟩
  obtain ⟨cap, hc, hr⟩ := key
  refine (h cap hc).run w β vs hh ⟨ha.1, fun i d hd => ?_⟩
  cases i with
  | zero => simp at hd; subst hd; exact hr
  | succ i => exact ha.2 (i + 1) d (by simpa using hd)

/-- A slice without elements, opened: it may be nil or not. -/
theorem VCalls.open0 {P : Program} {g : FuncId} {rest : List DV} {hp : Heap} {R : DV → Heap → Prop} (h : ∀ ad cap, (∀ a, ad = some a → a.spot = none) → VCalls P g (.pv (.lit (.slice ad 0 cap)) :: rest) hp R) : VCalls P g (.pv (.sl []) :: rest) hp R := by
  refine ⟨fun w β vs hh ha => ?_⟩
  have h1 := relL_head ha
  have key : ∃ ad cap, (∀ a, ad = some a → a.spot = none) ∧ RelD w β hp (.pv (.lit (.slice ad 0 cap))) (vs.getD 0 undef) := by
    generalize vs.getD 0 undef = v at h1
    cases h1 with
    | pv _ _ hp0 => cases hp0 with
      | sl _ a cap sz val h1 h2 h3 h4 h5 h6 => exact ⟨a, cap, h4, .pv _ _ (.lit _ rfl)⟩
  obtain ⟨ad, cap, hs, hr⟩ := key
  refine (h ad cap hs).run w β vs hh ⟨ha.1, fun i d hd => ?_⟩
  cases i with
  | zero => simp at hd; subst hd; exact hr
  | succ i => exact ha.2 (i + 1) d (by simpa using hd)

theorem frozen_row {w : World} {b o : Nat} {C : Array Value} {T : TypeId} {m : Nat × Nat} (h : w.heap[b]? = some (.cells C T m)) (hm : m.2 ≤ m.1) : w.frozen? ⟨b, o, none⟩ = false := by
  obtain ⟨lo, up⟩ := m
  dsimp only at hm
  have : ¬ (lo ≤ o ∧ o < up) := by omega
  simp only [World.frozen?, h]
  simpa using this

/-- slices.overlaps at slices of two blocks. -/
theorem vcalls_apart {P : Program} {g : FuncId} {fn : Func} {hp : Heap} {k sz off len k2 sz2 off2 len2 cap2 : Nat} {tS tR e : TypeId} {n : Nat} {B B2 : Blk} (hf : P.funcs[g]? = some fn) (hname : (fn.name == "runtime.NumGoroutine") = false) (hb : fn.body.isNone = true) (hn : Extern.findNext fn = none)
    (he : Extern.find fn = some (Extern.SlicesOverlaps.overlaps #[tS, tS] #[tR])) (ht : velem P tS = some (none, e, n)) (hk : hp[k]? = some B) (hl : B.live = true) (hk2 : hp[k2]? = some B2) (hl2 : B2.live = true) (hne : k ≠ k2) (hlen : 0 < len) (hsz : 0 < B2.cells.length) :
    VCalls P g [.own k sz off len, .ownc k2 sz2 off2 len2 cap2] hp fun r h' => r = .bool false ∧ h' = hp := by
  refine ⟨fun w β vs hh ha => ?_⟩
  obtain ⟨hu, i, hi, rfl⟩ := velem_slice ht
  have h1 := ha.2 0 _ rfl
  have h2 := ha.2 1 _ rfl
  have hvs : vs = #[vs.getD 0 undef, vs.getD 1 undef] := by
    have h1 := ha.1
    simp at h1
    apply Array.ext
    · simp; omega
    · intro i h2 h3
      simp at h3
      match i, h3 with
      | 0, _ => simp [Array.getElem?_eq_getElem h2]
      | 1, _ => simp [Array.getElem?_eq_getElem h2]
  generalize vs.getD 0 undef = v at *
  generalize vs.getD 1 undef = u at *
  subst hvs
  have key : (Extern.SlicesOverlaps.overlaps #[tS, tS] #[tR] #[v, u]).run P w = .ok (.bool false) w := by
    cases h2 with
    | ownc _ _ _ _ _ b2 o2 C2 T2 m2 _ hm2 g1 g2 g3 g4 g5 =>
      cases h1 with
      | own0 => omega
      | own _ _ _ _ cap b C T m _ hm f1 f2 f3 f4 =>
        obtain ⟨C0, c1, _, _⟩ := hh.blk k B b hk hl hm
        obtain ⟨C20, d1, d2, _⟩ := hh.blk k2 B2 b2 hk2 hl2 hm2
        have hbb : b ≠ b2 := fun e => hne (hh.inj k k2 B B2 b hk hk2 hl hl2 hm (by rw [e]; exact hm2))
        rw [f3] at c1
        simp at c1
        obtain ⟨rfl, rfl, rfl⟩ := c1
        rw [g3] at d1
        simp at d1
        obtain ⟨rfl, rfl, rfl⟩ := d1
        refine run_overlaps_apart w tS tR e hu i.size (fun w => by simp [sizeOf, typeInfo, hi]) ⟨b, off, none⟩ ⟨b2, o2, none⟩ len cap len2 cap2 hbb _ _ _ _ (by simp [World.shape?, f3]; exact ⟨rfl, rfl⟩) (by simp [World.shape?, g3]; exact ⟨rfl, rfl⟩) (by omega) ?_ ?_
        · exact frozen_row f3 C0.ok
        · exact frozen_row f3 C0.ok
  refine .inr ⟨fn, .bool false, w, hf, hb, ?_, .bool false, .bool false, hp, β, rfl, Evo.refl w β hp, hh, .pv _ _ (.lit _ rfl), rfl, rfl⟩
  rw [run_callFunc_extern hf hname hb hn he]
  simp [key]

mutual
theorem nums_ren_d (σ : Nat → Nat) : ∀ (d : DV), (d.ren σ).nums (fun _ => false) = true → d.nums (fun _ => false) = true
  | .pv _, _ => rfl
  | .ptr _ _, h => h
  | .own _ _ _ _, h => h
  | .ownc _ _ _ _ _, h => h
  | .ip _, _ => rfl
  | .any, _ => rfl
  | .agg cs, h => nums_ren_go σ cs h
  | .tup cs, h => nums_ren_go σ cs h
  | .fn f a b, h => by
    simp only [DV.ren, DV.nums, Bool.and_eq_true] at h ⊢
    exact ⟨nums_ren_go σ a h.1, nums_ren_go σ b h.2⟩
  | .opt c d, h => nums_ren_d σ d h
theorem nums_ren_go (σ : Nat → Nat) : ∀ (ds : List DV), DV.nums.go (fun _ => false) (DV.ren.go σ ds) = true → DV.nums.go (fun _ => false) ds = true
  | [], _ => rfl
  | d :: r, h => by
    simp only [DV.ren.go, DV.nums.go, Bool.and_eq_true] at h ⊢
    exact ⟨nums_ren_d σ d h.1, nums_ren_go σ r h.2⟩
end

/-- Blocks that nobody holds any more, but those of kp. -/
def deadK (kp : Nat → Bool) (h : Heap) : Heap := h.mapIdx fun i B => if kp i then B else ⟨B.ty, false, []⟩
theorem deadK_len (kp : Nat → Bool) (h : Heap) : (deadK kp h).length = h.length := by simp [deadK]
theorem deadK_get {kp : Nat → Bool} {h : Heap} {k : Nat} {B : Blk} (hk : (deadK kp h)[k]? = some B) (hl : B.live = true) : kp k = true ∧ h[k]? = some B := by
  unfold deadK at hk
  rw [List.getElem?_mapIdx] at hk
  obtain ⟨x, h1, h2⟩ := map_eq hk
  split at h2
  · rename_i hkp
    subst h2
    exact ⟨hkp, h1⟩
  · subst h2
    cases hl

/-- What comes back of a call is one slice, which gets a number of its own; all else is given up, but blocks that are as they were. -/
theorem VCalls.freshK {P : Program} {g : FuncId} {args : List DV} {h : Heap} (kp : Nat → Bool) {R : DV → Heap → Prop} {R' : Nat → Nat → TypeId → List DV → Prop} (c : VCalls P g args h R)
    (hR : ∀ r h', R r h' → (∀ i B, kp i = true → h[i]? = some B → h'[i]? = some B ∧ DV.nums.go (fun _ => false) B.cells = true) ∧ ∃ sz n T cs, ((r = .pv (.slc []) ∧ n = 0 ∧ cs = []) ∨ ∃ k, (r = .own k sz 0 n ∨ ∃ cap, 0 < cap ∧ r = .ownc k sz 0 n cap) ∧ (kp k = true → h.length ≤ k) ∧ h'[k]? = some ⟨T, true, cs⟩ ∧ DV.nums.go (fun _ => false) cs = true) ∧ R' sz n T cs) :
    VCalls P g args h fun r h' => ∃ sz n T cs, R' sz n T cs ∧ r = .own h.length sz 0 n ∧ h' = deadK kp h ++ [⟨T, true, cs⟩] := by
  refine ⟨fun w β vs hh ha => (c.run w β vs hh ha).mono ?_⟩
  rintro e w' ⟨v, r, h', β', rfl, ev, hh', hr, hq⟩
  obtain ⟨hkeep, sz, n, T, cs, hrk, hR'⟩ := hR r h' hq
  obtain ⟨fk, hnum, hlive, hnone, hval⟩ : ∃ fk : Option Nat, DV.nums.go (fun _ => false) cs = true ∧ (∀ b, fk = some b → ∃ k, h'[k]? = some ⟨T, true, cs⟩ ∧ β'.f k = some b ∧ (kp k = true → h.length ≤ k)) ∧ (fk = none → cs = []) ∧
      ∀ (β2 : Map) (h2 : Heap) (j : Nat), j < h2.length → β2.f j = fk → RelD w' β2 h2 (.own j sz 0 n) v := by
    rcases hrk with ⟨rfl, rfl, rfl⟩ | ⟨k, hrk, hkp, hk, hnum⟩
    · refine ⟨none, rfl, by simp, fun _ => rfl, fun β2 h2 j hj hf => ?_⟩
      cases hr with
      | pv _ _ hp0 => cases hp0 with
        | slc _ a sz2 val h1 h2 h3 h4 h5 => exact .own0 _ _ a hj hf h3
    · refine ⟨β'.f k, hnum, fun b hb => ⟨k, hk, hb, hkp⟩, fun hn => hh'.none k _ hk rfl hn, fun β2 h2 j hj hf => ?_⟩
      rcases hrk with rfl | ⟨cap, hcap, rfl⟩
      · cases hr with
        | own _ _ _ _ cap b C T' m _ hm h1 h2 h3 h4 => exact .own _ _ _ _ cap b C T' m hj (hf.trans hm) h1 h2 h3 h4
        | own0 _ _ a _ hm h1 => exact .own0 _ _ a hj (hf.trans hm) h1
      · cases hr with
        | ownc _ _ _ _ _ b o C T' m _ hm h1 h2 h3 h4 h5 =>
          rw [h5 hcap]
          exact .own _ _ _ _ cap b C T' m hj (hf.trans hm) h1 h2 h3 h4
  have at_ : ∀ {j : Nat} {D : Blk}, (deadK kp h ++ [(⟨T, true, cs⟩ : Blk)])[j]? = some D → D.live = true → (j < h.length ∧ kp j = true ∧ h[j]? = some D) ∨ (j = h.length ∧ D = ⟨T, true, cs⟩) := fun {j D} hj hD => by
    rw [List.getElem?_append, deadK_len] at hj
    split at hj
    · rename_i hlt
      obtain ⟨g1, g2⟩ := deadK_get hj hD
      exact .inl ⟨hlt, g1, g2⟩
    · rename_i hge
      have hj0 : j - h.length = 0 := by
        rcases Nat.eq_zero_or_pos (j - h.length) with h0 | h0
        · exact h0
        · rw [List.getElem?_eq_none (by simp; omega)] at hj; cases hj
      rw [hj0] at hj
      simp at hj
      exact .inr ⟨by omega, hj.symm⟩
  have fnew : (ext β h.length fk).f h.length = fk := by simp [ext]
  have fold : ∀ {j}, j < h.length → (ext β h.length fk).f j = β'.f j := fun {j} hj => by rw [ext_lt hj, ev.beta j hj]
  -- each block of the new heap is one of the old
  have src : ∀ {j : Nat} {D : Blk}, (deadK kp h ++ [(⟨T, true, cs⟩ : Blk)])[j]? = some D → D.live = true → DV.nums.go (fun _ => false) D.cells = true ∧ ((ext β h.length fk).f j = none → D.cells = []) ∧ (∀ b, (ext β h.length fk).f j = some b → ∃ k, h'[k]? = some D ∧ β'.f k = some b ∧ ((j < h.length ∧ k = j) ∨ (j = h.length ∧ (kp k = true → h.length ≤ k)))) := fun {j D} hj hD => by
    rcases at_ hj hD with ⟨hlt, g1, g2⟩ | ⟨rfl, rfl⟩
    · obtain ⟨g3, g4⟩ := hkeep j D g1 g2
      rw [fold hlt]
      exact ⟨g4, fun hn => hh'.none j D g3 hD hn, fun b hb => ⟨j, g3, hb, .inl ⟨hlt, rfl⟩⟩⟩
    · rw [fnew]
      exact ⟨hnum, hnone, fun b hb => by obtain ⟨k, k1, k2, k3⟩ := hlive b hb; exact ⟨k, k1, k2, .inr ⟨rfl, k3⟩⟩⟩
  have lv : ∀ b, live (ext β h.length fk) (deadK kp h ++ [(⟨T, true, cs⟩ : Blk)]) b → live β' h' b := by
    rintro b ⟨j, D, h1, h2, h3⟩
    obtain ⟨_, _, hs⟩ := src h1 h2
    obtain ⟨k, k1, k2, _⟩ := hs b h3
    exact ⟨k, D, k1, h2, k2⟩
  have im : ∀ b, img (ext β h.length fk) (deadK kp h ++ [(⟨T, true, cs⟩ : Blk)]) b → img β' h' b := by
    rintro b (hb | hb)
    · exact .inl (by rw [ev.X]; exact hb)
    · exact .inr (lv b hb)
  have rel : ∀ {ds : List DV}, DV.nums.go (fun _ => false) ds = true → ∀ (i : Nat) (d : DV), ds[i]? = some d → ∀ u, RelD w' β' h' d u → RelD w' (ext β h.length fk) (deadK kp h ++ [(⟨T, true, cs⟩ : Blk)]) d u := fun {ds} hnum i d hd u hu => by
    have hn : d.nums (fun _ => false) = true := DV.nums_go hnum i d hd
    have := RelD.ren (σ := fun _ => 0) (p := fun _ => false) (β' := ext β h.length fk) (hp' := deadK kp h ++ [(⟨T, true, cs⟩ : Blk)]) (fun _ h => by cases h) im hu hn
    rwa [ren_id _ d hn] at this
  have evo : Evo w β h w' (ext β h.length fk) (deadK kp h ++ [(⟨T, true, cs⟩ : Blk)]) :=
    ⟨ev.os, ev.tape, ev.output, ev.size, by simp [deadK_len], fun j hj => ext_lt hj, ev.same, ev.shape, fun b hb hl => ev.im b hb (lv b hl), rfl⟩
  have heap : HeapRel w' (ext β h.length fk) (deadK kp h ++ [(⟨T, true, cs⟩ : Blk)]) := by
    refine ⟨fun j D b h1 h2 h3 => ?_, fun j D h1 h2 h3 => ?_, fun i j D D' b h1 h2 h3 h4 f1 f2 => ?_, fun j D b h1 h2 h3 => ?_, fun b hb => Nat.lt_of_lt_of_le (hh.bound b hb) ev.size⟩
    · obtain ⟨s1, _, s2⟩ := src h1 h2
      obtain ⟨k, hk, hb, _⟩ := s2 b h3
      obtain ⟨C, c1, c2, c3⟩ := hh'.blk k D b hk h2 hb
      exact ⟨C, c1, c2, fun i d hd => ⟨(c3 i d hd).1, rel s1 i d hd _ (c3 i d hd).2⟩⟩
    · obtain ⟨_, s1, _⟩ := src h1 h2
      exact s1 h3
    · obtain ⟨_, _, s1⟩ := src h1 h3
      obtain ⟨_, _, s2⟩ := src h2 h4
      obtain ⟨k, k1, k2, k3⟩ := s1 b f1
      obtain ⟨l, l1, l2, l3⟩ := s2 b f2
      have e := hh'.inj k l D D' b k1 l1 h3 h4 k2 l2
      subst e
      rcases at_ h1 h3 with ⟨p1, p2, _⟩ | ⟨p1, _⟩ <;> rcases at_ h2 h4 with ⟨q1, q2, _⟩ | ⟨q1, _⟩
      · rcases k3 with ⟨_, k3⟩ | ⟨k3, _⟩ <;> rcases l3 with ⟨_, l3⟩ | ⟨l3, _⟩ <;> omega
      · rcases k3 with ⟨_, k3⟩ | ⟨k3, _⟩
        · subst k3
          rcases l3 with ⟨l3, _⟩ | ⟨_, l3⟩
          · omega
          · have := l3 p2; omega
        · omega
      · rcases l3 with ⟨_, l3⟩ | ⟨l3, _⟩
        · subst l3
          rcases k3 with ⟨k3, _⟩ | ⟨_, k3⟩
          · omega
          · have := k3 q2; omega
        · omega
      · omega
    · obtain ⟨_, _, s2⟩ := src h1 h2
      obtain ⟨k, hk, hb, _⟩ := s2 b h3
      have := hh'.avoid k D b hk h2 hb
      rwa [ev.X] at this
  exact ⟨v, .own h.length sz 0 n, _, _, rfl, evo, heap, hval _ _ _ (by simp [deadK_len]) fnew, sz, n, T, cs, hR', rfl, rfl⟩

theorem kill_at (hp : Heap) (k j : Nat) : (kill hp k)[j]? = if j = k then (hp[j]?).map (fun B => ⟨B.ty, false, []⟩) else hp[j]? := by
  unfold kill
  split
  · rename_i B hk
    have hlt := (List.getElem?_eq_some_iff.1 hk).1
    by_cases e : j = k
    · subst e; rw [if_pos rfl, List.getElem?_set_self hlt, hk]; rfl
    · rw [if_neg e, List.getElem?_set_ne (by omega)]
  · rename_i hk
    split
    · rename_i e; subst e; rw [hk]; rfl
    · rfl
theorem kills_at (hp : Heap) (l : List Nat) (j : Nat) : (kills hp l)[j]? = if j ∈ l then (hp[j]?).map (fun B => ⟨B.ty, false, []⟩) else hp[j]? := by
  induction l generalizing hp with
  | nil => simp [kills]
  | cons k r ih =>
    rw [kills, ih, kill_at]
    by_cases e : j = k
    · subst e
      simp only [if_true, List.mem_cons, true_or]
      split
      · cases hp[j]? <;> rfl
      · rfl
    · simp only [List.mem_cons, e, false_or, if_false]

/-- A contract whose answer is one new slice, at a call: 'sel': the blocks that are handed over; 'kp': which of them stay as they are. -/
theorem vc_freshK {P : Program} {g : FuncId} {args args0 : List DV} {hp h0 : Heap} {K : DV → Heap → Prop} {R' : Nat → Nat → TypeId → List DV → Prop} (sel : List Nat) (kp : Nat → Bool) (hnd : sel.Nodup) (hl : lentTo hp sel = some h0) (hok : lentOk hp sel = true)
    (c : VCalls P g args0 h0 fun r h' => ∃ sz n T cs, R' sz n T cs ∧ r = .own h0.length sz 0 n ∧ h' = deadK kp h0 ++ [⟨T, true, cs⟩]) (ha0 : args0 = args.map (DV.ren fun j => sel.idxOf j)) (ha : DV.nums.go sel.contains args = true)
    (hkeep : ∀ i B, kp i = true → h0[i]? = some B → DV.nums.go (fun _ => false) B.cells = true) (hR : ∀ sz n T cs, R' sz n T cs → DV.nums.go (fun _ => false) cs = true)
    (h : ∀ sz n T cs, R' sz n T cs → K (.own hp.length sz 0 n) (kills hp (sel.filter fun k => !kp (sel.idxOf k)) ++ [⟨T, true, cs⟩])) : VCalls P g args hp K := by
  refine (VCalls.frame sel hnd hl hok c ha0 ha).mono ?_
  rintro r h2 ⟨r0, h', ⟨sz, n, T, cs, hR1, rfl, rfl⟩, hlen, rfl, rfl⟩
  obtain ⟨l1, l2⟩ := allSome_get hl
  have hlen0 : h0.length = sel.length := by rw [l1, List.length_map]
  have e1 : DV.ren (back sel hp.length) (.own h0.length sz 0 n) = .own hp.length sz 0 n := by
    simp [DV.ren, back, hlen0]
  have hcs := hR sz n T cs hR1
  have rb : ∀ {σ : Nat → Nat} {B : Blk}, DV.nums.go (fun _ => false) B.cells = true → renB σ B = B := fun {σ B} hB => by
    obtain ⟨t, lv, c⟩ := B
    simp only [renB]
    rw [← DV.ren_go, ren_id_go _ _ hB]
  have e2 : behind hp sel (deadK kp h0 ++ [(⟨T, true, cs⟩ : Blk)]) = kills hp (sel.filter fun k => !kp (sel.idxOf k)) ++ [⟨T, true, cs⟩] := by
    have hd : (deadK kp h0 ++ [(⟨T, true, cs⟩ : Blk)]).drop sel.length = [⟨T, true, cs⟩] := by
      rw [List.drop_left' (by rw [deadK_len, hlen0])]
    unfold behind
    rw [hd, List.map_cons, List.map_nil, rb hcs]
    congr 1
    apply List.ext_getElem?
    intro j
    rw [kills_at, List.getElem?_map]
    by_cases hj : j < hp.length
    · rw [List.getElem?_range hj, Option.map_some]
      have hget : hp[j]? = some hp[j] := List.getElem?_eq_getElem hj
      by_cases hm : j ∈ sel
      · have hlt := List.idxOf_lt_length_of_mem hm
        have hc : sel.contains j = true := by simpa using hm
        rw [if_pos hc]
        have hi : sel[sel.idxOf j]? = some j := by rw [List.getElem?_eq_getElem hlt]; simp
        have hh0 : h0[sel.idxOf j]? = some (renB (fun j => sel.idxOf j) hp[j]) := by
          have hlt0 : sel.idxOf j < h0.length := by rw [hlen0]; exact hlt
          have h3 := l2 (sel.idxOf j) h0[sel.idxOf j] (List.getElem?_eq_getElem hlt0)
          rw [List.getElem?_map, hi, Option.map_some, hget] at h3
          simp at h3
          rw [List.getElem?_eq_getElem hlt0, ← h3]
        have hdk : (deadK kp h0 ++ [(⟨T, true, cs⟩ : Blk)]).getD (sel.idxOf j) default = if kp (sel.idxOf j) then renB (fun j => sel.idxOf j) hp[j] else ⟨hp[j].ty, false, []⟩ := by
          rw [List.getD_eq_getElem?_getD, List.getElem?_append_left (by rw [deadK_len, hlen0]; exact hlt), deadK, List.getElem?_mapIdx, hh0]
          cases kp (sel.idxOf j) <;> rfl
        rw [hdk]
        cases hkp : kp (sel.idxOf j) with
        | true =>
          have hnf : ¬ j ∈ sel.filter (fun k => !kp (sel.idxOf k)) := by simp [hkp]
          rw [if_neg hnf, hget]
          simp only [if_true]
          have hB := hkeep _ _ hkp hh0
          congr 1
          have hB' : DV.nums.go (fun _ => false) hp[j].cells = true := nums_ren_go (fun j => sel.idxOf j) _ (by rw [DV.ren_go]; exact hB)
          rw [rb hB, rb hB']
        | false =>
          have hnf : j ∈ sel.filter (fun k => !kp (sel.idxOf k)) := by simp [hkp, hm]
          rw [if_pos hnf, hget]
          rfl
      · have hc : sel.contains j = false := by simpa using hm
        have hnf : ¬ j ∈ sel.filter (fun k => !kp (sel.idxOf k)) := by simp [hm]
        rw [if_neg (by rw [hc]; simp), if_neg hnf, List.getD_eq_getElem?_getD, hget]; rfl
    · rw [List.getElem?_eq_none (l := List.range hp.length) (by simpa using Nat.le_of_not_lt hj), List.getElem?_eq_none (l := hp) (Nat.le_of_not_lt hj)]
      simp
  rw [e1, e2]
  exact h sz n T cs hR1

/-- One new slice comes back; of the blocks handed over those of kp are as they were. -/
abbrev NewSl (kp : Nat → Bool) (h : Heap) (sz n : Nat) (T : TypeId) (cs : List DV) : DV → Heap → Prop := fun r h' => r = .own h.length sz 0 n ∧ h' = deadK kp h ++ [⟨T, true, cs⟩]
/-- What may come back of the callee's code, before it gets its number. -/
def SomeSl (kp : Nat → Bool) (h : Heap) (sz n : Nat) (T : TypeId) (cs : List DV) : DV → Heap → Prop := fun r h' =>
  (∀ i B, kp i = true → h[i]? = some B → h'[i]? = some B ∧ DV.nums.go (fun _ => false) B.cells = true) ∧
  ((r = .pv (.slc []) ∧ n = 0 ∧ cs = []) ∨ ∃ k, (r = .own k sz 0 n ∨ ∃ cap, 0 < cap ∧ r = .ownc k sz 0 n cap) ∧ (kp k = true → h.length ≤ k) ∧ h'[k]? = some ⟨T, true, cs⟩ ∧ DV.nums.go (fun _ => false) cs = true)
theorem VCalls.newSl {P : Program} {g : FuncId} {args : List DV} {h : Heap} {kp : Nat → Bool} {sz n : Nat} {T : TypeId} {cs : List DV} (c : VCalls P g args h (SomeSl kp h sz n T cs)) : VCalls P g args h (NewSl kp h sz n T cs) := by
  refine (VCalls.freshK kp (R' := fun sz' n' T' cs' => sz' = sz ∧ n' = n ∧ T' = T ∧ cs' = cs) c fun r h' hr => ⟨hr.1, sz, n, T, cs, hr.2, rfl, rfl, rfl, rfl⟩).mono ?_
  rintro r h' ⟨_, _, _, _, ⟨rfl, rfl, rfl, rfl⟩, rfl, rfl⟩
  exact ⟨rfl, rfl⟩
theorem vc_new {P : Program} {g : FuncId} {args args0 : List DV} {hp h0 : Heap} {K : DV → Heap → Prop} {kp : Nat → Bool} {sz n : Nat} {T : TypeId} {cs : List DV} (sel : List Nat) (c : VCalls P g args0 h0 (NewSl kp h0 sz n T cs)) (hnd : sel.Nodup) (hl : lentTo hp sel = some h0) (hok : lentOk hp sel = true)
    (ha0 : args0 = args.map (DV.ren fun j => sel.idxOf j)) (ha : DV.nums.go sel.contains args = true)
    (hkeep : ∀ i B, kp i = true → h0[i]? = some B → DV.nums.go (fun _ => false) B.cells = true) (hc : DV.nums.go (fun _ => false) cs = true)
    (h : K (.own hp.length sz 0 n) (kills hp (sel.filter fun k => !kp (sel.idxOf k)) ++ [⟨T, true, cs⟩])) : VCalls P g args hp K := by
  refine vc_freshK (R' := fun sz' n' T' cs' => sz' = sz ∧ n' = n ∧ T' = T ∧ cs' = cs) sel kp hnd hl hok (c.mono fun r h' e => ⟨sz, n, T, cs, ⟨rfl, rfl, rfl, rfl⟩, e.1, e.2⟩) ha0 ha hkeep ?_ ?_
  · rintro _ _ _ _ ⟨rfl, rfl, rfl, rfl⟩; exact hc
  · rintro _ _ _ _ ⟨rfl, rfl, rfl, rfl⟩; exact h
/-- .. whose arguments name no block. -/
theorem vc_new0 {P : Program} {g : FuncId} {args : List DV} {hp : Heap} {K : DV → Heap → Prop} {kp : Nat → Bool} {sz n : Nat} {T : TypeId} {cs : List DV} (c : VCalls P g args [] (NewSl kp [] sz n T cs)) (ha : DV.nums.go (fun _ => false) args = true) (hc : DV.nums.go (fun _ => false) cs = true)
    (h : K (.own hp.length sz 0 n) (hp ++ [⟨T, true, cs⟩])) : VCalls P g args hp K := by
  refine vc_new [] c List.nodup_nil rfl rfl ?_ ?_ (by simp) hc ?_
  · rw [← DV.ren_go, ren_id_go _ _ ha]
  · rw [← ha]; congr 1
  · exact h

/-- Blocks of plain cells. -/
def plainL (hp : Heap) : List Nat → Prop
  | [] => True
  | k :: r => (k < hp.length ∧ DV.nums.go (fun _ => false) (hp.getD k default).cells = true) ∧ plainL hp r
theorem plainL_get {hp : Heap} {sel : List Nat} (h : plainL hp sel) : ∀ k ∈ sel, k < hp.length ∧ DV.nums.go (fun _ => false) (hp.getD k default).cells = true := by
  induction sel with
  | nil => simp
  | cons a r ih =>
    intro k hk
    rcases List.mem_cons.1 hk with rfl | hk
    · exact h.1
    · exact ih h.2 k hk
theorem renB_plain {σ : Nat → Nat} {B : Blk} (hB : DV.nums.go (fun _ => false) B.cells = true) : renB σ B = B := by
  obtain ⟨t, lv, c⟩ := B
  simp only [renB]
  rw [← DV.ren_go, ren_id_go _ _ hB]
theorem allSome_map {α β : Type} (l : List α) (f : α → Option β) (g : α → β) (h : ∀ a ∈ l, f a = some (g a)) : allSome (l.map f) = some (l.map g) := by
  induction l with
  | nil => rfl
  | cons a r ih =>
    rw [List.map_cons, h a (by simp), List.map_cons]
    simp only [allSome]
    rw [ih fun b hb => h b (by simp [hb])]
    rfl
theorem lentTo_plain {hp : Heap} {sel : List Nat} (h : plainL hp sel) : lentTo hp sel = some (sel.map fun k => hp.getD k default) := by
  refine allSome_map sel _ _ fun k hk => ?_
  obtain ⟨h1, h2⟩ := plainL_get h k hk
  rw [List.getD_eq_getElem?_getD, List.getElem?_eq_getElem h1] at h2 ⊢
  simp only [Option.map_some, Option.getD_some] at h2 ⊢
  rw [renB_plain h2]
theorem lentOk_plain {hp : Heap} {sel : List Nat} (h : plainL hp sel) : lentOk hp sel = true := by
  unfold lentOk
  rw [List.all_eq_true]
  intro k hk
  obtain ⟨h1, h2⟩ := plainL_get h k hk
  rw [List.getD_eq_getElem?_getD, List.getElem?_eq_getElem h1] at h2
  rw [List.getElem?_eq_getElem h1]
  simp only [Option.getD_some] at h2 ⊢
  rw [nums_mono_go _ _ h2]; simp
theorem vc_newP {P : Program} {g : FuncId} {args args0 : List DV} {hp h0 : Heap} {K : DV → Heap → Prop} {kp : Nat → Bool} {sz n : Nat} {T : TypeId} {cs : List DV} (sel give : List Nat) (c : VCalls P g args0 h0 (NewSl kp h0 sz n T cs)) (hh0 : h0 = sel.map fun k => hp.getD k default) (hpl : plainL hp sel) (hnd : sel.Nodup) (hgv : (sel.filter fun k => !kp (sel.idxOf k)) = give)
    (ha0 : args0 = args.map (DV.ren fun j => sel.idxOf j)) (ha : DV.nums.go sel.contains args = true) (hc : DV.nums.go (fun _ => false) cs = true)
    (h : K (.own hp.length sz 0 n) (kills hp give ++ [⟨T, true, cs⟩])) : VCalls P g args hp K := by
  subst hgv
  refine vc_new sel c hnd (by rw [lentTo_plain hpl, hh0]) (lentOk_plain hpl) ha0 ha (fun i B _ hB => ?_) hc h
  rw [hh0, List.getElem?_map] at hB
  obtain ⟨k, h1, h2⟩ := map_eq hB
  subst h2
  exact (plainL_get hpl k (List.mem_of_getElem? h1)).2
end Go.V

/-
  V, part 35: a call that only reads: what the caller holds of its own is lent for the call's time, addresses and what closures hold too.
-/
set_option linter.unusedVariables false
namespace Go.V

/-- One argument, lent: a slice as one that nobody writes, an address as one of cells that nobody writes. -/
def frzB (hp : Heap) : DV → Option DV
  | .ptr k off => match blkCells hp k with
    | some cs => (allSome ((cs.drop off).map (frzP 0 hp 4))).map .ip
    | none => none
  | .ip cs => some (.ip cs)
  | d => frz1 0 hp d
def frzA (hp : Heap) : DV → Option DV
  | .fn f a b => match allSome (a.map (frzB hp)), allSome (b.map (frzB hp)) with
    | some a', some b' => some (.fn f a' b')
    | _, _ => none
  | .agg cs => (allSome (cs.map (frzB hp))).map .agg
  | d => frzB hp d

theorem frzB_sound {w : World} {β βc : Map} {hp : Heap} (hh : HeapRel w β hp) (hl : Leaves w β hp 0 (img βc [])) {d d' : DV} {v : Value} (hd : RelD w β hp d v) (h : frzB hp d = some d') : RelD w βc [] d' v := by
  unfold frzB at h
  split at h
  · rename_i k off
    split at h
    · rename_i cs hb
      obtain ⟨ps, h1, h2⟩ := map_eq h
      subst h2
      obtain ⟨g1, g2⟩ := allSome_get h1
      cases hd with
      | ptr _ _ b hk hm =>
        obtain ⟨B, C, q1, q2, q3, q4, q5, q6⟩ := blk_cell hh hb hm
        have each : ∀ (j : Nat) (d : PV), ps[j]? = some d → off + j < C.v.size ∧ RelP w (img βc []) d (C.v.getD (off + j) undef) := fun j d hj => by
          have h3 := g2 j d hj
          rw [List.getElem?_map, List.getElem?_drop] at h3
          obtain ⟨x, x1, x2⟩ := map_eq h3
          have hlt := (List.getElem?_eq_some_iff.1 x1).1
          exact ⟨by omega, frzP_sound hh hl 4 (q6 _ _ x1).2 x2⟩
        refine .ip ps ⟨b, off, none⟩ (fun j => C.v.getD (off + j) undef) rfl (fun j d hj => ⟨?_, ?_, ?_⟩) (fun j d hj => (each j d hj).2)
        · exact (Array.getElem?_eq_some_iff.1 q4).1
        · exact hl.off k B b (Nat.zero_le _) q1 q2 hm
        · exact cell_of_blk q4 (each j d hj).1
    · cases h
  · rename_i cs
    simp at h
    subst h
    cases hd with
    | ip _ ad val h1 h2 h3 =>
      exact .ip cs ad val h1 (fun j d hd => ⟨(h2 j d hd).1, fun x => (h2 j d hd).2.1 (hl.sub _ x), (h2 j d hd).2.2⟩) (fun j d hd => (h3 j d hd).mono (Nat.le_refl _) (fun _ _ _ => rfl) (fun b _ => hl.sub b))
  · exact frz1_sound (β' := βc) (hp' := []) hh hl (fun k hk => absurd hk (Nat.not_lt_zero _)) (Nat.zero_le _) hd h

theorem frzBL_sound {w : World} {β βc : Map} {hp : Heap} (hh : HeapRel w β hp) (hl : Leaves w β hp 0 (img βc [])) {ds ds' : List DV} {n : Nat} {f : Nat → Value} (hn : ds.length = n) (hd : ∀ i d, ds[i]? = some d → RelD w β hp d (f i)) (h : allSome (ds.map (frzB hp)) = some ds') : ds'.length = n ∧ ∀ i d, ds'[i]? = some d → RelD w βc [] d (f i) := by
  obtain ⟨h1, h2⟩ := allSome_get h
  refine ⟨by rw [h1, List.length_map, hn], fun i d hi => ?_⟩
  have h3 := h2 i d hi
  rw [List.getElem?_map] at h3
  obtain ⟨x, x1, x2⟩ := map_eq h3
  exact frzB_sound hh hl (hd i x x1) x2

theorem frzA_sound {w : World} {β βc : Map} {hp : Heap} (hh : HeapRel w β hp) (hl : Leaves w β hp 0 (img βc [])) {d d' : DV} {v : Value} (hd : RelD w β hp d v) (h : frzA hp d = some d') : RelD w βc [] d' v := by
  unfold frzA at h
  split at h
  · rename_i f a b
    split at h
    · rename_i a' b' ha hb
      simp at h
      subst h
      cases hd with
      | fn _ _ _ vs us h1 h2 h3 h4 =>
        obtain ⟨p1, p2⟩ := frzBL_sound hh hl h1 h3 ha
        obtain ⟨q1, q2⟩ := frzBL_sound hh hl h2 h4 hb
        exact .fn f a' b' vs us p1 q1 p2 q2
    · cases h
  · rename_i cs
    obtain ⟨ds, h1, h2⟩ := map_eq h
    subst h2
    cases hd with
    | agg _ vs g1 g2 =>
      obtain ⟨p1, p2⟩ := frzBL_sound hh hl g1 g2 h1
      exact .agg _ _ p1 p2
  · exact frzB_sound hh hl hd h

/-- The caller lends what it holds for the call's time. -/
theorem VCalls.lendA {P : Program} {g : FuncId} {args args0 : List DV} {hp : Heap} {R : DV → Prop} (ha : allSome (args.map (frzA hp)) = some args0) (c : VCalls P g args0 [] fun r h' => h' = [] ∧ r.flat = true ∧ R r) :
    VCalls P g args hp fun r h' => h' = hp ∧ R r := by
  refine ⟨fun w β vs hh hr => ?_⟩
  let βc : Map := ⟨fun _ => none, β.X⟩
  have himc : ∀ b, img βc [] b → β.X b := fun b hb => by
    rcases hb with hb | ⟨i, D, h1, _⟩
    · exact hb
    · simp at h1
  have hlv : Leaves w β hp 0 (img βc []) := ⟨fun b hb => .inl (himc b hb), fun k B b _ h1 h2 h3 hb => hh.avoid k B b h1 h2 h3 (himc b hb)⟩
  have hhc : HeapRel w βc [] := ⟨by simp, by simp, by simp, by simp, hh.bound⟩
  obtain ⟨a1, a2⟩ := allSome_get ha
  have hargs : RelL w βc [] args0 vs := by
    refine ⟨by rw [a1]; simpa using hr.1, fun i d hd => ?_⟩
    have h3 := a2 i d hd
    rw [List.getElem?_map] at h3
    obtain ⟨x, x1, x2⟩ := map_eq h3
    exact frzA_sound hh hlv (hr.2 i x x1) x2
  refine (c.run w βc vs hhc hargs).mono ?_
  rintro e w' ⟨v, r, h', β', rfl, ev, hh', hrel, rfl, hf, hR⟩
  have heap_same : ∀ b, b < w.heap.size → w'.heap[b]? = w.heap[b]? := fun b hb => ev.same b hb (by rintro ⟨k, B, h1, _⟩; simp at h1)
  have e : Evo w β hp w' β hp := ⟨ev.os, ev.tape, ev.output, ev.size, Nat.le_refl _, fun _ _ => rfl, fun b hb _ => heap_same b hb, fun b C T m h => ⟨C, m, by rw [heap_same b (Array.getElem?_eq_some_iff.1 h).1]; exact h, rfl⟩, fun _ _ h => h, rfl⟩
  refine ⟨v, r, hp, β, rfl, e, ?_, hrel.flat hf, rfl, hR⟩
  refine ⟨fun k B b h1 h2 h3 => ?_, hh.none, hh.inj, hh.avoid, fun b hb => Nat.lt_of_lt_of_le (hh.bound b hb) ev.size⟩
  obtain ⟨C, g1, g2, g3⟩ := hh.blk k B b h1 h2 h3
  exact ⟨C, by rw [heap_same b (Array.getElem?_eq_some_iff.1 g1).1]; exact g1, g2, fun i d hd => ⟨(g3 i d hd).1, (g3 i d hd).2.mono e⟩⟩
theorem vc_lendA {P : Program} {g : FuncId} {args args0 : List DV} {hp : Heap} {K : DV → Heap → Prop} {d : DV} (c : VCalls P g args0 [] (Ret d)) (ha : allSome (args.map (frzA hp)) = some args0) (hf : d.flat = true) (h : K d hp) : VCalls P g args hp K :=
  (VCalls.lendA (R := fun r => r = d) ha (c.mono fun r h' e => ⟨e.1, e.2.2 ▸ hf, e.2.2⟩)).mono fun r h' e => by obtain ⟨rfl, rfl⟩ := e; exact h
/-! ### Lists written in place -/
theorem mk_cells {α : Type} (e : Enc α) (z : α) : ∀ n, mk ((e.enc z).map DV.pv) n = cells e (List.replicate n z)
  | 0 => rfl
  | n + 1 => by rw [mk, mk_cells e z n, List.replicate_succ, cells_cons]
theorem splice_cells {α : Type} (e : Enc α) (l m : List α) (i : Nat) : splice (cells e l) (i * e.sz) (cells e m) = cells e (l.take i ++ m ++ l.drop (i + m.length)) := by
  unfold splice
  rw [cells_take, cells_len, ← Nat.add_mul, cells_drop, cells_app, cells_app]
/-! ### Lending, to be reckoned -/
def frzF (f : Fn) (a b : Option (List DV)) : Option DV := match a, b with | some a', some b' => some (.fn f a' b') | _, _ => none
def frzQ (x : Option (List DV)) (hp : Heap) (off : Nat) : Option DV := match x with | some cs => (allSome ((cs.drop off).map (frzP 0 hp 4))).map .ip | none => none
theorem frzA_pv {hp : Heap} {p : PV} : frzA hp (.pv p) = some (.pv p) := rfl
theorem frzA_fn {hp : Heap} {f : Fn} {a b : List DV} : frzA hp (.fn f a b) = frzF f (allSome (a.map (frzB hp))) (allSome (b.map (frzB hp))) := rfl
theorem frzF_some {f : Fn} {a b : List DV} : frzF f (some a) (some b) = some (.fn f a b) := rfl
theorem frzB_ptrE {hp : Heap} {k off : Nat} : frzB hp (.ptr k off) = frzQ (blkCells hp k) hp off := rfl
theorem frzQ_some {cs : List DV} {hp : Heap} {off : Nat} : frzQ (some cs) hp off = (allSome ((cs.drop off).map (frzP 0 hp 4))).map .ip := rfl
end Go.V

/-
  V, part 36: a nil slice as a slice of the call's own, without elements.
-/
namespace Go.V

theorem sim_nilOwn {O : Org} {β : Map} {S : St} {a : Act} {w : World} (h : Sim O β S a w) (t : Nat) (T : TypeId) (sz : Nat) (ht : look S.tm t = .pv (.slc [])) :
    ∃ β', Sim O β' ⟨S.nt, S.base, (t, .own S.hp.length sz 0 0) :: S.tm, S.hp ++ [⟨T, true, []⟩]⟩ a w := by
  have e : Evo w β S.hp w (ext β S.hp.length none) (S.hp ++ [(⟨T, true, []⟩ : Blk)]) := by
    refine ⟨rfl, rfl, rfl, Nat.le_refl _, by simp, fun j hj => ext_lt hj, fun _ _ _ => rfl, fun _ C _ m h => ⟨C, m, h, rfl⟩, fun b _ hb => ?_, rfl⟩
    obtain ⟨j, D, g1, g2, g3⟩ := hb
    rcases Nat.lt_trichotomy j S.hp.length with hlt | heq | hgt
    · rw [List.getElem?_append_left hlt] at g1; rw [ext_lt hlt] at g3; exact ⟨j, D, g1, g2, g3⟩
    · subst heq; simp [ext] at g3
    · rw [List.getElem?_append_right (by omega), List.getElem?_eq_none (by simp; omega)] at g1; simp at g1
  refine ⟨_, h.defers, h.size, fun u => ?_, push_heap h.heap rfl e (by simp) (fun _ => rfl) (fun _ _ => rfl), h.evo.trans e, h.base⟩
  simp only [look]
  split
  · rename_i hu
    have := h.tm t
    rw [ht] at this
    rw [← hu]
    generalize a.tmps.getD t undef = v at this
    cases this with
    | pv _ _ hp0 => cases hp0 with
      | slc _ ad sz2 val h1 h2 h3 h4 h5 => exact .own0 _ _ ad (by simp) (by simp [ext]) h3
  · exact (h.tm u).mono e
theorem VWp.nilOwn {P : Program} {c : Code} {Q : Exit → St → Prop} {S : St} (t : Nat) (T : TypeId) (sz : Nat) (ht : look S.tm t = .pv (.slc [])) (h : VWp P c Q ⟨S.nt, S.base, (t, .own S.hp.length sz 0 0) :: S.tm, S.hp ++ [⟨T, true, []⟩]⟩) : VWp P c Q S := fun O β a w hs =>
  let ⟨_, h'⟩ := sim_nilOwn hs t T sz ht
  h O _ a w h'
theorem VLoop.nilOwn {P : Program} {c : Code} {Q : Exit → St → Prop} {S : St} (t : Nat) (T : TypeId) (sz : Nat) (ht : look S.tm t = .pv (.slc [])) (h : VLoop P c Q ⟨S.nt, S.base, (t, .own S.hp.length sz 0 0) :: S.tm, S.hp ++ [⟨T, true, []⟩]⟩) : VLoop P c Q S := VWp.nilOwn t T sz ht h
end Go.V

namespace Go.V
open Go
/-- Slices whose capacity is known may be handed where it is not asked for. -/
theorem VCalls.wkA {P : Program} {g : FuncId} {args : List DV} {hp : Heap} {R : DV → Heap → Prop} (c : VCalls P g (DV.wk.go args) hp R) : VCalls P g args hp R :=
  ⟨fun w β vs hh ha => c.run w β vs hh ⟨by rw [wk_go_map, List.length_map]; exact ha.1, fun i d hd => by
    rw [wk_go_map, List.getElem?_map] at hd
    obtain ⟨x, h1, h2⟩ := map_eq hd
    subst h2
    exact (ha.2 i x h1).wk⟩⟩
end Go.V

/-
  V, part 38: what lies at the end of a block may be forgotten.
-/
namespace Go.V
open Go

/-- The same blocks, of which some are known less far. -/
structure Cut (h h' : Heap) : Prop where
  len : h'.length = h.length
  at_ : ∀ (k : Nat) (B : Blk), h[k]? = some B → ∃ B', h'[k]? = some B' ∧ B'.ty = B.ty ∧ B'.live = B.live ∧ ∃ t, B.cells = B'.cells ++ t
theorem Cut.back {h h' : Heap} (c : Cut h h') {k : Nat} {B' : Blk} (hk : h'[k]? = some B') : ∃ B, h[k]? = some B ∧ B'.ty = B.ty ∧ B'.live = B.live ∧ ∃ t, B.cells = B'.cells ++ t := by
  have hlt : k < h.length := by rw [← c.len]; exact (List.getElem?_eq_some_iff.1 hk).1
  obtain ⟨B2, g1, g2⟩ := c.at_ k h[k] (List.getElem?_eq_getElem hlt)
  rw [hk] at g1
  cases g1
  exact ⟨h[k], List.getElem?_eq_getElem hlt, g2⟩
theorem Cut.live {h h' : Heap} (c : Cut h h') {β : Map} {b : Nat} : live β h' b ↔ live β h b := by
  constructor
  · rintro ⟨k, B, h1, h2, h3⟩
    obtain ⟨B2, g1, _, g3, _⟩ := c.back h1
    exact ⟨k, B2, g1, g3 ▸ h2, h3⟩
  · rintro ⟨k, B, h1, h2, h3⟩
    obtain ⟨B2, g1, _, g3, _⟩ := c.at_ k B h1
    exact ⟨k, B2, g1, g3.trans h2, h3⟩
theorem Cut.evo {h h' : Heap} (c : Cut h h') (w : World) (β : Map) : Evo w β h w β h' :=
  ⟨rfl, rfl, rfl, Nat.le_refl _, by rw [c.len]; exact Nat.le_refl _, fun _ _ => rfl, fun _ _ _ => rfl, fun _ C _ m e => ⟨C, m, e, rfl⟩, fun _ _ l => c.live.1 l, rfl⟩
theorem Cut.heap {h h' : Heap} (c : Cut h h') {w : World} {β : Map} (hh : HeapRel w β h) : HeapRel w β h' := by
  refine ⟨fun k B b h1 h2 h3 => ?_, fun k B h1 h2 h3 => ?_, fun j k B B' b h1 h2 h3 h4 h5 h6 => ?_, fun k B b h1 h2 h3 => ?_, hh.bound⟩
  · obtain ⟨B2, g1, g2, g3, t, g4⟩ := c.back h1
    obtain ⟨C, e1, e2, e3⟩ := hh.blk k B2 b g1 (g3 ▸ h2) h3
    refine ⟨C, g2 ▸ e1, by rw [g4, List.length_append] at e2; omega, fun i d hd => ?_⟩
    have : B2.cells[i]? = some d := by rw [g4, List.getElem?_append_left (List.getElem?_eq_some_iff.1 hd).1]; exact hd
    exact ⟨(e3 i d this).1, (e3 i d this).2.mono (c.evo w β)⟩
  · obtain ⟨B2, g1, g2, g3, t, g4⟩ := c.back h1
    have := hh.none k B2 g1 (g3 ▸ h2) h3
    rw [g4] at this
    exact (List.append_eq_nil_iff.1 this).1
  · obtain ⟨B2, g1, _, g3, _⟩ := c.back h1
    obtain ⟨B3, i1, _, i3, _⟩ := c.back h2
    exact hh.inj j k B2 B3 b g1 i1 (g3 ▸ h3) (i3 ▸ h4) h5 h6
  · obtain ⟨B2, g1, _, g3, _⟩ := c.back h1
    exact hh.avoid k B2 b g1 (g3 ▸ h2) h3
theorem Cut.refl (h : Heap) : Cut h h := ⟨rfl, fun k B hk => ⟨B, hk, rfl, rfl, [], by simp⟩⟩
theorem Cut.last (h : Heap) (T : TypeId) (b : Bool) (cs t : List DV) : Cut (h ++ [⟨T, b, cs ++ t⟩]) (h ++ [⟨T, b, cs⟩]) := by
  refine ⟨by simp, fun k B hk => ?_⟩
  rcases Nat.lt_trichotomy k h.length with hlt | heq | hgt
  · rw [List.getElem?_append_left hlt] at hk ⊢
    exact ⟨B, hk, rfl, rfl, [], by simp⟩
  · subst heq
    simp only [List.getElem?_concat_length, Option.some.injEq] at hk ⊢
    subst hk
    exact ⟨_, rfl, rfl, rfl, t, rfl⟩
  · rw [List.getElem?_eq_none (by simp; omega)] at hk; cases hk
end Go.V

/-
  V, part 39: blocks that a call was given are its own: they get numbers behind those of the caller, where theirs die.
-/
namespace Go.V
open Go

/-- Dead blocks in place of the caller's, then the blocks 'keep' alone, in that order. -/
structure Gm (keep : List Nat) (S S' : St) : Prop where
  nt : S'.nt = S.nt
  base : S'.base = S.base
  low : ∀ k, k < S.base → ∃ B, S'.hp[k]? = some B ∧ B.live = false
  nodup : keep.Nodup
  len : S'.hp.length = S.base + keep.length
  hp : ∀ (i k : Nat), keep[i]? = some k → ∃ B B', S.hp[k]? = some B ∧ S'.hp[S.base + i]? = some B' ∧ B'.ty = B.ty ∧ B'.live = B.live ∧ B'.cells = B.cells.map (DV.ren fun k => S.base + keep.idxOf k) ∧ (B.live = true → DV.nums.go keep.contains B.cells = true)
  tm : ∀ t, V.look S'.tm t = .any ∨ (V.look S'.tm t = (V.look S.tm t).ren (fun k => S.base + keep.idxOf k) ∧ (V.look S.tm t).nums keep.contains = true)

theorem Sim.gm {O : Org} {β : Map} {S S' : St} {a : Act} {w : World} {keep : List Nat} (h : Sim O β S a w) (g : Gm keep S S') : ∃ β', Sim O β' S' a w := by
  let β' : Map := ⟨fun i => if i < S.base then β.f i else (keep[i - S.base]?).bind β.f, β.X⟩
  have hO : O.hp.length = S.base := h.base
  have back : ∀ {i : Nat} {B' : Blk}, S'.hp[i]? = some B' → B'.live = true → ∃ k B, S.base ≤ i ∧ keep[i - S.base]? = some k ∧ S.hp[k]? = some B ∧ B'.ty = B.ty ∧ B'.live = B.live ∧ B'.cells = B.cells.map (DV.ren fun k => S.base + keep.idxOf k) ∧ (B.live = true → DV.nums.go keep.contains B.cells = true) ∧ β'.f i = β.f k := by
    intro i B' hi hl
    have hge : S.base ≤ i := by
      rcases Nat.lt_or_ge i S.base with hlt | hge
      · obtain ⟨B, h1, h2⟩ := g.low i hlt
        rw [hi] at h1; cases h1; rw [hl] at h2; cases h2
      · exact hge
    have hlt : i - S.base < keep.length := by have := (List.getElem?_eq_some_iff.1 hi).1; rw [g.len] at this; omega
    have hk : keep[i - S.base]? = some keep[i - S.base] := List.getElem?_eq_getElem hlt
    obtain ⟨B, B'', h1, h2, h3, h4, h5, h6⟩ := g.hp _ _ hk
    rw [show S.base + (i - S.base) = i by omega, hi] at h2
    cases h2
    exact ⟨_, B, hge, hk, h1, h3, h4, h5, h6, by simp [β', hk]; omega⟩
  have hsub : ∀ b, live β' S'.hp b → live β S.hp b := by
    rintro b ⟨i, B', h1, h2, h3⟩
    obtain ⟨k, B, _, _, k2, _, k4, _, _, k7⟩ := back h1 h2
    exact ⟨k, B, k2, by rw [← k4]; exact h2, by rw [← k7]; exact h3⟩
  have him : ∀ b, img β' S'.hp b → img β S.hp b := fun b hb => hb.imp id (hsub b)
  have hσ : ∀ k, keep.contains k = true → k < S.hp.length → S.base + keep.idxOf k < S'.hp.length ∧ β'.f (S.base + keep.idxOf k) = β.f k := by
    intro k hk _
    have hm : k ∈ keep := by simpa using hk
    have hlt := List.idxOf_lt_length_of_mem hm
    refine ⟨by rw [g.len]; omega, ?_⟩
    have hnl : ¬ S.base + List.idxOf k keep < S.base := by omega
    simp [β', List.getElem?_eq_getElem hlt, hnl]
  refine ⟨β', h.defers, by rw [g.nt]; exact h.size, fun t => ?_, ?_, ?_, h.base.trans g.base.symm⟩
  · rcases g.tm t with e | ⟨e, hn⟩
    · rw [e]; exact .any _
    · rw [e]; exact RelD.ren hσ him (h.tm t) hn
  · have hh := h.heap
    refine ⟨fun i B' b h1 h2 h3 => ?_, fun i B' h1 h2 h3 => ?_, fun i j B B' b h1 h2 h3 h4 h5 h6 => ?_, fun i B' b h1 h2 h3 => ?_, hh.bound⟩
    · obtain ⟨k, B, _, k1, k2, k3, k4, k5, k6, k7⟩ := back h1 h2
      rw [k7] at h3
      have hl : B.live = true := by rw [← k4]; exact h2
      obtain ⟨C, c1, c2, c3⟩ := hh.blk k B b k2 hl h3
      refine ⟨C, by rw [k3]; exact c1, by rw [k5, List.length_map]; exact c2, fun j d hd => ?_⟩
      rw [k5, List.getElem?_map] at hd
      cases hx : B.cells[j]? with
      | none => simp [hx] at hd
      | some x =>
        simp [hx] at hd
        subst hd
        obtain ⟨o1, o2⟩ := c3 j x hx
        refine ⟨?_, RelD.ren hσ him o2 (DV.nums_go (k6 hl) j x hx)⟩
        cases x <;> first | rfl | exact o1
    · obtain ⟨k, B, _, k1, k2, k3, k4, k5, k6, k7⟩ := back h1 h2
      rw [k7] at h3
      rw [k5, hh.none k B k2 (by rw [← k4]; exact h2) h3]; rfl
    · obtain ⟨k, D, g1, k1, k2, k3, k4, k5, k6, k7⟩ := back h1 h3
      obtain ⟨k', D', g2, l1, l2, l3, l4, l5, l6, l7⟩ := back h2 h4
      rw [k7] at h5
      rw [l7] at h6
      have := hh.inj k k' D D' b k2 l2 (by rw [← k4]; exact h3) (by rw [← l4]; exact h4) h5 h6
      subst this
      obtain ⟨hi, e1⟩ := List.getElem?_eq_some_iff.1 k1
      obtain ⟨hj, e2⟩ := List.getElem?_eq_some_iff.1 l1
      have := (List.getElem_inj g.nodup).1 (e1.trans e2.symm)
      omega
    · obtain ⟨k, B, _, k1, k2, k3, k4, k5, k6, k7⟩ := back h1 h2
      rw [k7] at h3
      exact hh.avoid k B b k2 (by rw [← k4]; exact h2) h3
  · have ev := h.evo
    have hlow : ∀ k, k < O.hp.length → β'.f k = β.f k := fun k hk => by simp [β', show k < S.base by omega]
    exact ⟨ev.os, ev.tape, ev.output, ev.size, by rw [g.len]; omega, fun k hk => (hlow k hk).trans (ev.beta k hk), ev.same, ev.shape, fun b hb hl => ev.im b hb (hsub b hl), ev.X⟩

def tmGm (n : Nat) (keep : List Nat) (tm : List (Nat × DV)) : List (Nat × DV) → Prop
  | [] => True
  | (t, d) :: r => (d = (V.look tm t).ren (fun k => n + keep.idxOf k) ∧ (V.look tm t).nums keep.contains = true) ∧ tmGm n keep tm r
theorem tmGm_look {n : Nat} {keep : List Nat} {tm : List (Nat × DV)} : ∀ {tm' : List (Nat × DV)}, tmGm n keep tm tm' → ∀ t, V.look tm' t = .any ∨ (V.look tm' t = (V.look tm t).ren (fun k => n + keep.idxOf k) ∧ (V.look tm t).nums keep.contains = true)
  | [], _, t => .inl rfl
  | (a, d) :: r, h, t => by
    simp only [V.look]
    split
    · rename_i e; subst e; exact .inr h.1
    · exact tmGm_look h.2 t
def cellsGm (n : Nat) (keep : List Nat) (cs cs' : List DV) : Prop := (DV.nums.go (fun _ => false) cs = true ∧ cs' = cs) ∨ (cs' = cs.map (DV.ren fun k => n + keep.idxOf k) ∧ DV.nums.go keep.contains cs = true)
def hpGm (n : Nat) (keep : List Nat) (hp : Heap) : List Nat → Heap → Prop
  | [], [] => True
  | k :: r, B' :: r' => (∃ B, hp[k]? = some B ∧ B'.ty = B.ty ∧ B'.live = B.live ∧ cellsGm n keep B.cells B'.cells) ∧ hpGm n keep hp r r'
  | _, _ => False
theorem hpGm_get {n : Nat} {keep : List Nat} {hp : Heap} : ∀ {l : List Nat} {hp' : Heap}, hpGm n keep hp l hp' → hp'.length = l.length ∧ ∀ (i k : Nat), l[i]? = some k → ∃ B B', hp[k]? = some B ∧ hp'[i]? = some B' ∧ B'.ty = B.ty ∧ B'.live = B.live ∧ B'.cells = B.cells.map (DV.ren fun k => n + keep.idxOf k) ∧ (B.live = true → DV.nums.go keep.contains B.cells = true)
  | [], [], _ => ⟨rfl, fun i k h => by simp at h⟩
  | [], _ :: _, h => h.elim
  | _ :: _, [], h => h.elim
  | k0 :: r, B' :: r', h => by
    obtain ⟨⟨B, h1, h2, h3, h4⟩, h5⟩ := h
    obtain ⟨g1, g2⟩ := hpGm_get h5
    refine ⟨by simp [g1], fun i k hk => ?_⟩
    cases i with
    | zero =>
      simp at hk
      subst hk
      refine ⟨B, B', h1, rfl, h2, h3, ?_⟩
      rcases h4 with ⟨n, e⟩ | ⟨e, n⟩
      · exact ⟨by rw [e, ← DV.ren_go, ren_id_go _ _ n], fun _ => nums_mono_go _ _ n⟩
      · exact ⟨e, fun _ => n⟩
    | succ i => exact g2 i k (by simpa using hk)

/-- Dead blocks. -/
def deadL : List TypeId → Heap := List.map fun T => ⟨T, false, []⟩
/-- A loop before which what the call was given becomes its own. -/
theorem VWp.move {P : Program} {c : Code} {Q : Exit → St → Prop} {S : St} (keep : List Nat) (Ts : List TypeId) (tm' : List (Nat × DV)) (hp' : Heap) (hb : Ts.length = S.base) (hn : keep.Nodup) (hh : hpGm S.base keep S.hp keep hp') (ht : tmGm S.base keep S.tm tm') (h : VWp P c Q ⟨S.nt, S.base, tm', deadL Ts ++ hp'⟩) : VWp P c Q S := fun O β a w hs => by
  obtain ⟨g1, g2⟩ := hpGm_get hh
  have hl : (deadL Ts).length = S.base := by simp [deadL, hb]
  obtain ⟨β', h'⟩ := hs.gm (keep := keep) (S' := ⟨S.nt, S.base, tm', deadL Ts ++ hp'⟩) ⟨rfl, rfl, fun k hk => by
    have hlt : k < (deadL Ts).length := by omega
    refine ⟨(deadL Ts)[k], by show (deadL Ts ++ hp')[k]? = _; rw [List.getElem?_append_left hlt, List.getElem?_eq_getElem hlt], by simp [deadL]⟩, hn, by show (deadL Ts ++ hp').length = _; rw [List.length_append, hl, g1], fun i k hk => by
    obtain ⟨B, B', e1, e2, e3⟩ := g2 i k hk
    exact ⟨B, B', e1, by show (deadL Ts ++ hp')[S.base + i]? = _; rw [List.getElem?_append_right (by omega), hl, show S.base + i - S.base = i by omega]; exact e2, e3⟩, tmGm_look ht⟩
  exact h O β' a w h'
theorem VLoop.move {P : Program} {c : Code} {Q : Exit → St → Prop} {S : St} (keep : List Nat) (Ts : List TypeId) (tm' : List (Nat × DV)) (hp' : Heap) (hb : Ts.length = S.base) (hn : keep.Nodup) (hh : hpGm S.base keep S.hp keep hp') (ht : tmGm S.base keep S.tm tm') (h : VLoop P c Q ⟨S.nt, S.base, tm', deadL Ts ++ hp'⟩) : VLoop P c Q S := VWp.move keep Ts tm' hp' hb hn hh ht h
end Go.V

/-
  V, part 40: between two rounds of a loop the own slices of a call may be read out, and their blocks left behind.
-/
namespace Go.V
open Go

/-- The slots that are still looked at, read out. -/
def tmFz (n : Nat) (hp : Heap) (tm : List (Nat × DV)) : List (Nat × DV) → Prop
  | [] => True
  | (t, d) :: r => frz n hp (V.look tm t) = some d ∧ tmFz n hp tm r
theorem tmFz_look {n : Nat} {hp : Heap} {tm : List (Nat × DV)} : ∀ {tm' : List (Nat × DV)}, tmFz n hp tm tm' → ∀ t, V.look tm' t = .any ∨ frz n hp (V.look tm t) = some (V.look tm' t)
  | [], _, t => .inl rfl
  | (a, d) :: r, h, t => by
    simp only [V.look]
    split
    · rename_i e; subst e; exact .inr h.1
    · exact tmFz_look h.2 t
structure Fz (S S' : St) : Prop where
  nt : S'.nt = S.nt
  base : S'.base = S.base
  hp : frzHeap S.base S.hp = some S'.hp
  tm : tmFz S.base S.hp S.tm S'.tm
theorem Sim.fz {O : Org} {β : Map} {S S' : St} {a : Act} {w : World} (h : Sim O β S a w) (g : Fz S S') : Sim O β S' a w := by
  have hn : S.base ≤ S.hp.length := by rw [← h.base]; exact h.evo.len
  have one : ∀ {d : DV} {v : Value} {d' : DV}, RelD w β S.hp d v → frz S.base S.hp d = some d' → RelD w β S'.hp d' v ∧ HeapRel w β S'.hp ∧ S'.hp.length = S.base ∧ ∀ b, live β S'.hp b → live β S.hp b := by
    intro d v d' hd hf
    obtain ⟨e, hp', ⟨r1, r2⟩, k2, k3, k4, k5⟩ := vend_sound h.heap hn hd (R := fun e hp' => e = d' ∧ hp' = S'.hp) (by unfold VEnd; rw [hf, g.hp]; exact ⟨rfl, rfl⟩)
    subst r1 r2
    exact ⟨k2, k3, k4, k5⟩
  obtain ⟨_, k3, k4, k5⟩ := one (d := .any) (v := undef) (d' := .any) (.any _) rfl
  refine ⟨h.defers, by rw [g.nt]; exact h.size, fun t => ?_, k3, ?_, h.base.trans g.base.symm⟩
  · rcases tmFz_look g.tm t with e | e
    · rw [e]; exact .any _
    · exact (one (h.tm t) e).1
  · have ev := h.evo
    exact ⟨ev.os, ev.tape, ev.output, ev.size, by rw [k4, ← h.base]; exact Nat.le_refl _, ev.beta, ev.same, ev.shape, fun b hb hl => ev.im b hb (k5 b hl), ev.X⟩
theorem VWp.fz {P : Program} {c : Code} {Q : Exit → St → Prop} {S : St} (S' : St) (g : Fz S S') (h : VWp P c Q S') : VWp P c Q S := fun O β a w hs => h O β a w (hs.fz g)
theorem VLoop.fz {P : Program} {c : Code} {Q : Exit → St → Prop} {S : St} (S' : St) (g : Fz S S') (h : VLoop P c Q S') : VLoop P c Q S := VWp.fz S' g h
end Go.V

/-
  V, part 41: blocks given away for good with a call: the callee may keep what they hold in its answer.
-/
namespace Go.V
open Go

end Go.V

/-
  V, part 42: a nil slice in a cell as a slice of the call's own.
-/
namespace Go.V
open Go

theorem sim_cell {O : Org} {β : Map} {S : St} {a : Act} {w : World} (h : Sim O β S a w) {k j : Nat} {B : Blk} {d d' : DV} (hk : S.hp[k]? = some B) (hd : B.cells[j]? = some d) (h1 : d'.one = true) (hr : ∀ v, RelD w β S.hp d v → RelD w β S.hp d' v) :
    Sim O β ⟨S.nt, S.base, S.tm, S.hp.set k ⟨B.ty, B.live, B.cells.set j d'⟩⟩ a w := by
  have hlt : k < S.hp.length := (List.getElem?_eq_some_iff.1 hk).1
  have at_ : ∀ {i : Nat} {D : Blk}, (S.hp.set k ⟨B.ty, B.live, B.cells.set j d'⟩)[i]? = some D → ∃ D0, S.hp[i]? = some D0 ∧ D.ty = D0.ty ∧ D.live = D0.live ∧ D.cells.length = D0.cells.length ∧ (D = D0 ∨ (i = k ∧ D0 = B ∧ D.cells = B.cells.set j d')) := by
    intro i D hi
    rw [List.getElem?_set] at hi
    split at hi
    · rename_i e
      subst e
      simp [hlt] at hi
      subst hi
      exact ⟨B, hk, rfl, rfl, by simp, .inr ⟨rfl, rfl, rfl⟩⟩
    · exact ⟨D, hi, rfl, rfl, rfl, .inl rfl⟩
  have lv : ∀ b, live β (S.hp.set k ⟨B.ty, B.live, B.cells.set j d'⟩) b → live β S.hp b := by
    rintro b ⟨i, D, g1, g2, g3⟩
    obtain ⟨D0, e1, _, e3, _⟩ := at_ g1
    exact ⟨i, D0, e1, e3 ▸ g2, g3⟩
  have e : Evo w β S.hp w β (S.hp.set k ⟨B.ty, B.live, B.cells.set j d'⟩) :=
    ⟨rfl, rfl, rfl, Nat.le_refl _, by simp, fun _ _ => rfl, fun _ _ _ => rfl, fun _ C _ m h => ⟨C, m, h, rfl⟩, fun b _ hb => lv b hb, rfl⟩
  have hh := h.heap
  refine ⟨h.defers, h.size, fun t => (h.tm t).mono e, ?_, h.evo.trans e, h.base⟩
  refine ⟨fun i D b g1 g2 g3 => ?_, fun i D g1 g2 g3 => ?_, fun i i2 D D2 b g1 g2 g3 g4 g5 g6 => ?_, fun i D b g1 g2 g3 => ?_, hh.bound⟩
  · obtain ⟨D0, e1, e2, e3, e4, e5⟩ := at_ g1
    obtain ⟨C, c1, c2, c3⟩ := hh.blk i D0 b e1 (e3 ▸ g2) g3
    refine ⟨C, e2 ▸ c1, by rw [e4]; exact c2, fun n x hx => ?_⟩
    rcases e5 with rfl | ⟨rfl, rfl, e6⟩
    · exact ⟨(c3 n x hx).1, (c3 n x hx).2.mono e⟩
    · rw [e6, List.getElem?_set] at hx
      split at hx
      · rename_i en
        subst en
        have hjl : j < D0.cells.length := (List.getElem?_eq_some_iff.1 hd).1
        simp [hjl] at hx
        subst hx
        exact ⟨h1, (hr _ (c3 j d hd).2).mono e⟩
      · exact ⟨(c3 n x hx).1, (c3 n x hx).2.mono e⟩
  · obtain ⟨D0, e1, e2, e3, e4, e5⟩ := at_ g1
    have := hh.none i D0 e1 (e3 ▸ g2) g3
    rw [this] at e4
    exact List.length_eq_zero_iff.1 e4
  · obtain ⟨D0, e1, e2, e3, _⟩ := at_ g1
    obtain ⟨D1, f1, f2, f3, _⟩ := at_ g2
    exact hh.inj i i2 D0 D1 b e1 f1 (e3 ▸ g3) (f3 ▸ g4) g5 g6
  · obtain ⟨D0, e1, e2, e3, _⟩ := at_ g1
    exact hh.avoid i D0 b e1 (e3 ▸ g2) g3
theorem VWp.nilOwnC {P : Program} {c : Code} {Q : Exit → St → Prop} {S : St} (k j : Nat) (T : TypeId) (sz : Nat) {B : Blk} (hk : S.hp[k]? = some B) (hd : B.cells[j]? = some (.pv (.slc [])))
    (h : VWp P c Q ⟨S.nt, S.base, S.tm, (S.hp ++ [(⟨T, true, []⟩ : Blk)]).set k ⟨B.ty, B.live, B.cells.set j (.own S.hp.length sz 0 0)⟩⟩) : VWp P c Q S := fun O β a w hs => by
  have e : Evo w β S.hp w (ext β S.hp.length none) (S.hp ++ [(⟨T, true, []⟩ : Blk)]) := by
    refine ⟨rfl, rfl, rfl, Nat.le_refl _, by simp, fun j hj => ext_lt hj, fun _ _ _ => rfl, fun _ C _ m h => ⟨C, m, h, rfl⟩, fun b _ hb => ?_, rfl⟩
    obtain ⟨j, D, g1, g2, g3⟩ := hb
    rcases Nat.lt_trichotomy j S.hp.length with hlt | heq | hgt
    · rw [List.getElem?_append_left hlt] at g1; rw [ext_lt hlt] at g3; exact ⟨j, D, g1, g2, g3⟩
    · subst heq; simp [ext] at g3
    · rw [List.getElem?_append_right (by omega), List.getElem?_eq_none (by simp; omega)] at g1; simp at g1
  have h2 : Sim O (ext β S.hp.length none) ⟨S.nt, S.base, S.tm, S.hp ++ [⟨T, true, []⟩]⟩ a w :=
    ⟨hs.defers, hs.size, fun u => (hs.tm u).mono e, push_heap hs.heap rfl e (by simp) (fun _ => rfl) (fun _ _ => rfl), hs.evo.trans e, hs.base⟩
  have hlt : k < S.hp.length := (List.getElem?_eq_some_iff.1 hk).1
  refine h O _ a w (sim_cell h2 (k := k) (j := j) (B := B) (d := .pv (.slc [])) (d' := .own S.hp.length sz 0 0) (by show (S.hp ++ _)[k]? = _; rw [List.getElem?_append_left hlt]; exact hk) hd rfl ?_)
  intro v hv
  cases hv with
  | pv _ _ hp0 => cases hp0 with
    | slc _ ad sz2 val g1 g2 g3 g4 g5 => exact .own0 _ _ ad (by simp) (by simp [ext]) g3
theorem VLoop.nilOwnC {P : Program} {c : Code} {Q : Exit → St → Prop} {S : St} (k j : Nat) (T : TypeId) (sz : Nat) {B : Blk} (hk : S.hp[k]? = some B) (hd : B.cells[j]? = some (.pv (.slc [])))
    (h : VLoop P c Q ⟨S.nt, S.base, S.tm, (S.hp ++ [(⟨T, true, []⟩ : Blk)]).set k ⟨B.ty, B.live, B.cells.set j (.own S.hp.length sz 0 0)⟩⟩) : VLoop P c Q S := VWp.nilOwnC k j T sz hk hd h
end Go.V

/-
  V, part 43: a whole state weakened: slices whose capacity is known become slices.
-/
namespace Go.V
open Go

def Blk.wk (B : Blk) : Blk := ⟨B.ty, B.live, DV.wk.go B.cells⟩
def tmwk (tm : List (Nat × DV)) : List (Nat × DV) := tm.map fun p => (p.1, p.2.wk)
def hpwk (hp : Heap) : Heap := hp.map Blk.wk
theorem DV.wk_one (d : DV) (h : d.one = true) : d.wk.one = true := by
  cases d <;> first | rfl | (simp [DV.one] at h)
theorem look_wk : ∀ (tm : List (Nat × DV)) (t : Nat), look (tmwk tm) t = (look tm t).wk
  | [], _ => rfl
  | (u, d) :: r, t => by
    simp only [tmwk, List.map_cons, look]
    split
    · rfl
    · exact look_wk r t
theorem sim_wk {O : Org} {β : Map} {S : St} {a : Act} {w : World} (h : Sim O β S a w) : Sim O β ⟨S.nt, S.base, tmwk S.tm, hpwk S.hp⟩ a w := by
  have at_ : ∀ {i : Nat} {D : Blk}, (hpwk S.hp)[i]? = some D → ∃ D0, S.hp[i]? = some D0 ∧ D = D0.wk := by
    intro i D hi
    rw [hpwk, List.getElem?_map] at hi
    obtain ⟨x, h1, h2⟩ := map_eq hi
    exact ⟨x, h1, h2.symm⟩
  have lv : ∀ b, live β (hpwk S.hp) b → live β S.hp b := by
    rintro b ⟨i, D, g1, g2, g3⟩
    obtain ⟨D0, e1, rfl⟩ := at_ g1
    exact ⟨i, D0, e1, g2, g3⟩
  have e : Evo w β S.hp w β (hpwk S.hp) :=
    ⟨rfl, rfl, rfl, Nat.le_refl _, by simp [hpwk], fun _ _ => rfl, fun _ _ _ => rfl, fun _ C _ m h => ⟨C, m, h, rfl⟩, fun b _ hb => lv b hb, rfl⟩
  have hh := h.heap
  refine ⟨h.defers, h.size, fun t => by show RelD w β (hpwk S.hp) (look (tmwk S.tm) t) _; rw [look_wk]; exact ((h.tm t).mono e).wk, ?_, h.evo.trans e, h.base⟩
  refine ⟨fun i D b g1 g2 g3 => ?_, fun i D g1 g2 g3 => ?_, fun i i2 D D2 b g1 g2 g3 g4 g5 g6 => ?_, fun i D b g1 g2 g3 => ?_, hh.bound⟩
  · obtain ⟨D0, e1, rfl⟩ := at_ g1
    obtain ⟨C, c1, c2, c3⟩ := hh.blk i D0 b e1 g2 g3
    refine ⟨C, c1, by show (DV.wk.go D0.cells).length ≤ _; rw [wk_go_map, List.length_map]; exact c2, fun n x hx => ?_⟩
    have hx2 : (DV.wk.go D0.cells)[n]? = some x := hx
    rw [wk_go_map, List.getElem?_map] at hx2
    obtain ⟨y, h1, h2⟩ := map_eq hx2
    subst h2
    exact ⟨DV.wk_one _ (c3 n y h1).1, ((c3 n y h1).2.mono e).wk⟩
  · obtain ⟨D0, e1, rfl⟩ := at_ g1
    have := hh.none i D0 e1 g2 g3
    show DV.wk.go D0.cells = []
    rw [this]; rfl
  · obtain ⟨D0, e1, rfl⟩ := at_ g1
    obtain ⟨D1, f1, rfl⟩ := at_ g2
    exact hh.inj i i2 D0 D1 b e1 f1 g3 g4 g5 g6
  · obtain ⟨D0, e1, rfl⟩ := at_ g1
    exact hh.avoid i D0 b e1 g2 g3
theorem VWp.wkS {P : Program} {c : Code} {Q : Exit → St → Prop} {S : St} (h : VWp P c Q ⟨S.nt, S.base, tmwk S.tm, hpwk S.hp⟩) : VWp P c Q S := fun O β a w hs => h O β a w (sim_wk hs)
theorem VLoop.wkS {P : Program} {c : Code} {Q : Exit → St → Prop} {S : St} (h : VLoop P c Q ⟨S.nt, S.base, tmwk S.tm, hpwk S.hp⟩) : VLoop P c Q S := VWp.wkS h
end Go.V

/-
  X: of a call's blocks those from a number on are read out and left behind; the others stay.
-/
namespace Go.V
open Go

structure FzN (n : Nat) (S S' : St) : Prop where
  nt : S'.nt = S.nt
  base : S'.base = S.base
  lo : S.base ≤ n
  hi : n ≤ S.hp.length
  hp : frzHeap n S.hp = some S'.hp
  tm : tmFz n S.hp S.tm S'.tm
end Go.V
namespace Go.V
/-- What is asked for fits into a machine. -/
theorem mem_ok {n : Nat} (h : n ≤ 140737488355328) : (n ≤ 140737488355328) = True := eq_true h
end Go.V
namespace Go.V
theorem vslk_fz {α : Type} (e : Enc α) (l : List α) (T : TypeId) (a b : Nat) (h : a ≤ b ∧ b ≤ l.length) : vslk (some (none, T, e.sz)) (fz e l) a b = some (.pv (.sl (fz e ((l.take b).drop a)))) := by
  have h1 : fz e l = [] ∨ (fz e l)[0]?.map List.length = some e.sz := by
    cases l with
    | nil => exact .inl rfl
    | cons x r => exact .inr (fz_has e (x :: r) (by simp))
  simp only [vslk]
  rw [if_pos ⟨h.1, by rw [fz_len]; exact h.2, h1⟩, fz_take, fz_drop]
end Go.V
namespace Go.V
theorem fz_src {α : Type} (e : Enc α) (l : List α) : (fz e l = [] ∨ (fz e l)[0]?.map List.length = some e.sz) = True := by
  refine eq_true ?_
  cases l with
  | nil => exact .inl rfl
  | cons x r => exact .inr (fz_has e (x :: r) (by simp))
end Go.V

/-
  V, part 18: from a law's contract to its row: arguments that are read, and what lies behind the call.
-/
namespace Go.V
open Go.RowKit Go.WideShapes Go.ChangeShapes

def β0 : Map := ⟨fun _ => none, fun _ => False⟩
theorem heapRel0 (w : World) : HeapRel w β0 [] := ⟨by simp, by simp, by simp, by simp, fun _ h => h.elim⟩

/-- What a law's walk says: true; and of what was there nothing has turned. -/
theorem law_walk {P : Program} {g : FuncId} {ds : List DV} {vs : Array Value} {w : World} (hb : ∃ fn, P.funcs[g]? = some fn ∧ fn.body.isNone = false) (c : VCalls P g ds [] (Ret (.bool true))) (h : RelL w β0 [] ds vs) :
    Calls P g vs w fun e w' => e = .returned (.bool true) ∧ Below w.heap.size w w' := by
  rcases c.run w β0 vs (heapRel0 w) h with ⟨_, _, _, _, h4⟩ | ⟨fn, _, _, h1, h2, _⟩
  rotate_left
  · obtain ⟨fn', k1, k2⟩ := hb
    rw [h1] at k1
    cases k1
    rw [h2] at k2
    cases k2
  refine h4.mono fun e w' ⟨v, r, h', β', he, ev, _, hr, _, _, hd⟩ => ?_
  subst hd
  obtain rfl := relD_lit hr
  exact ⟨he, ev.os, ev.tape, ev.output, ev.size, fun k hk => ev.same k hk (by rintro ⟨_, _, h, _⟩; simp at h)⟩

section
variable {H : Type} {enc : TypeId × Value → H} {P : Program}

theorem trodAll_below (hl : laidOutB P = true) {W W' : World} (hb : Below W.heap.size W W') {sp : Nat → Bool} : ∀ {ts : List TypeId} {vs : List Value} {ds : List (DataW H)} {ps : List MemPlace},
    (ts.all fun t => P.readableRec t && decide (t < P.types.size)) = true → DataW.TrodAll enc P W 0 (fun _ => true) true ts vs ds ps → (∀ x ∈ ps, x.block < W.heap.size) → (∀ x ∈ ps, sp x.block = true) → DataW.TrodAll enc P W' 0 sp true ts vs ds ps
  | [], _, _, _, _, h, _, _ => by
    obtain ⟨rfl, rfl, rfl⟩ := trodAll_nil h
    exact rfl
  | t :: ts, _, _, _, hr, h, hlt, hs => by
    obtain ⟨v, vs1, d, ds1, a, b, rfl, rfl, rfl, h1, h2⟩ := trodAll_cons h
    simp only [List.all_cons, Bool.and_eq_true, decide_eq_true_eq] at hr
    exact ⟨a, b, WideElems.Trod_stays hl hr.1.1 hr.1.2 h1 (fun x hx => hb.same (hlt x (List.mem_append_left _ hx))) (fun x hx => hs x (List.mem_append_left _ hx)),
      trodAll_below hl hb (by simpa using hr.2) h2 (fun x hx => hlt x (List.mem_append_right _ hx)) (fun x hx => hs x (List.mem_append_right _ hx)), rfl⟩

/-- The row's last step of a law. -/
theorem law_post {f : Func} {s : ChangeSpec} {apart fresh handsOn again : Bool} {W W' : World} {args : Array Value} {ds gs : List (DataW H)} {before : List MemPlace} {Tb : TypeId}
    (hW : DataW.Whole enc P f.params.toList s.vars apart W args.toList ds gs before) (hl : laidOutB P = true)
    (hts : (f.params.toList.all fun t => P.readableRec t && decide (t < P.types.size)) = true)
    (hvs : s.vars = []) (hres : f.resultTypes = #[Tb]) (hTb : P.underlying Tb = some .bool)
    (hr : (s.fn H ds).results = [.lit (.bool true)]) (ha : (s.fn H ds).args = ds) (hv : (s.fn H ds).vars = [])
    (hb : Below W.heap.size W W') : s.post enc P f apart fresh handsOn again W args (.bool true) W' := by
  have hlt : ∀ p ∈ before, p.block < W.heap.size := fun p hp => hW.lt p hp
  have hold : ∀ p ∈ before, (fun b => decide (b < W.heap.size)) p.block = true := fun p hp => by simpa using hlt p hp
  have hW2 := hW
  obtain ⟨p, q, hA, hV, hpq, hz, hn⟩ := hW2
  rw [hvs] at hV
  obtain ⟨rfl, rfl⟩ := trodVars_none hV
  have hpb : before = p := by simpa using hpq
  subst hpb
  have hargs : ∀ sp : Nat → Bool, (∀ x ∈ before, sp x.block = true) → DataW.TrodAll enc P W' 0 sp true f.params.toList args.toList (s.fn H (ds ++ [])).args before := fun sp hs => by
    rw [List.append_nil, ha]
    exact trodAll_below hl hb hts hA hlt hs
  have hres' : ∀ (b : Nat) (sp : Nat → Bool) (hd : Bool), DataW.TrodAll enc P W' b sp hd f.resultTypes.toList ((Value.bool true).resultList f.resultTypes.size) (s.fn H (ds ++ [])).results [] := fun b sp hd => by
    rw [List.append_nil, hr, hres]
    exact trodAll_mk1 (shut_bool hTb true)
  have hvars : ∀ sp : Nat → Bool, DataW.TrodVars enc P W' sp s.vars (s.fn H (ds ++ [])).vars [] := fun sp => by
    rw [List.append_nil, hv, hvs]; exact rfl
  refine ⟨ds, [], before, [], before, [], hW, hres' _ _ _, hargs _ hold, hvars _, World.keptBut_mono (fun p hp => ⟨hp, ?_⟩) (hb.frame (· ∈ before)), fun _ => ?_⟩
  · simpa using hp
  · refine ⟨ok_one hres rfl (by simp [Value.okWide, hTb, Cell.okWide, Cell.ok]), _, _, ([] ++ before) ++ [], ⟨[] ++ before, [], trodAll_append (hargs _ (fun _ _ => rfl)) (hres' _ _ _), hvars _, rfl, ?_, ?_⟩, ?_⟩
    · intro b off hp
      have hin : MemPlace.cell b off ∈ before := by simpa using hp
      rw [hb.frozen (hlt _ hin)]
      exact hz b off hin
    · intro ha
      simpa using hn ha
    · intro p hp _
      simpa using hp

/-! ### Arguments -/
theorem arg_int {r : Reach} {b0 : Nat} {W : World} {t : TypeId} {k : IntKind} {v : Value} {d : DataW H} {ps : List MemPlace} (ht : P.underlying t = some (.int k)) (hval : Value.okWide P W r b0 t v) (h : DataW.Trod enc P W 0 (fun _ => true) true t v d ps) :
    ∃ n : Int, RelD W β0 [] (.int k n) v ∧ (Lit.int k n).wf = true := by
  obtain ⟨n, rfl, _, _, hw⟩ := open_int ht hval h
  exact ⟨n, .pv _ _ (.lit _ rfl), hw⟩

def su8 (l : List UInt8) : List (List PV) := l.map fun b => [.lit (.int .u8 b.toNat)]

theorem hlt_of {W : World} {a : Addr} {v : Value} (h : W.cell? a = some v) : a.block < W.heap.size := by
  by_cases hb : a.block < W.heap.size
  · exact hb
  · have : W.heap[a.block]? = none := by simp; omega
    simp [World.cell?, this] at h

theorem arg_u8s {r : Reach} {b0 : Nat} {W : World} {t e : TypeId} {v : Value} {d : DataW H} {ps : List MemPlace} (ht : P.underlying t = some (.slice e)) (he : P.underlying e = some (.int .u8)) (hc : P.cellsOf e = 1)
    (hval : Value.okWide P W r b0 t v) (h : DataW.Trod enc P W 0 (fun _ => true) true t v d ps) :
    ∃ l : List UInt8, RelD W β0 [] (.pv (.sl (su8 l))) v ∧ l.length ≤ maxLen := by
  obtain ⟨a0, len, cap, rfl⟩ := okWide_slice ht hval
  obtain ⟨fuel, hf⟩ := h
  rcases open_ints ht he hc hf with ⟨h1, _⟩ | ⟨a, len', cap', zs, h1, _, hl, hm, hz, _, hcell, hwf⟩
  · simp [Value.cells] at h1
    obtain ⟨rfl, rfl, rfl⟩ := h1
    exact ⟨[], .pv _ _ (.sl [] none 0 1 (fun _ _ => undef) (Nat.le_refl _) (Nat.zero_le _) (by simp) (by simp) (by simp) (by simp)), by simp⟩
  · simp [Value.cells] at h1
    obtain ⟨rfl, rfl, rfl⟩ := h1
    simp only [if_true] at hz
    have hsp : a.spot = none := by
      simp [Value.okWide, ht, Cell.okWide, Cell.ok, World.has] at hval
      exact hval.2.2.2.1
    have hwf' : ∀ i, i < zs.length → 0 ≤ zs.getD i 0 ∧ zs.getD i 0 ≤ 255 := fun i hi => by
      have := hwf _ (List.getElem_mem hi)
      have this : 0 ≤ zs[i] ∧ zs[i] ≤ 255 := by
        simp only [Lit.wf, Bool.and_eq_true, decide_eq_true_eq] at this
        exact this
      rw [List.getD_eq_getElem?_getD, List.getElem?_eq_getElem hi, Option.getD_some]
      exact this
    let l : List UInt8 := (zs.take len).map fun n => UInt8.ofNat n.toNat
    have hll : l.length = len := by simp [l, hz]; omega
    have hgl : ∀ i, i < len → (su8 l)[i]? = some [.lit (.int .u8 (zs.getD i 0))] := fun i hi => by
      have hi' : i < zs.length := by omega
      have := hwf' i hi'
      rw [List.getD_eq_getElem?_getD, List.getElem?_eq_getElem hi', Option.getD_some] at this ⊢
      simp only [su8, l, List.map_map, List.getElem?_map, List.getElem?_take, hi, if_true, List.getElem?_eq_getElem hi', Option.map_some, Function.comp]
      have e : ((UInt8.ofNat (zs[i].toNat)).toNat : Int) = zs[i] := by
        rw [UInt8.toNat_ofNat']; omega
      rw [e]
    have hsl : (su8 l).length = len := by simp [su8, hll]
    have hat : ∀ i, i < len → ∃ ad, some a = some ad ∧ ad.block < W.heap.size ∧ ¬ img β0 [] ad.block ∧ W.cell? (at_ ad (i * 1 + 0)) = some (.int .u8 (zs.getD i 0)) := fun i hi => by
      have h := hcell i (by omega)
      have hs := World.cell?_spot h
      refine ⟨a, rfl, ?_, ?_, ?_⟩
      · have := hlt_of h
        obtain ⟨b, off, sp⟩ := a
        simp only at hsp
        subst hsp
        rw [add_plain] at this
        exact this
      · rintro (h | ⟨_, _, h, _⟩)
        · exact h
        · simp at h
      · have e : at_ a (i * 1 + 0) = a.add i := by
          obtain ⟨b, off, sp⟩ := a
          simp only at hsp
          subst hsp
          rw [add_plain]
          simp [at_]
        rw [e]; exact h
    refine ⟨l, .pv _ _ ?_, by omega⟩
    have key : RelP W (img β0 []) (.sl (su8 l)) (.slice (some a) (su8 l).length cap) := by
      refine .sl (su8 l) (some a) cap 1 (fun i _ => .int .u8 (zs.getD i 0)) (by omega) hm (fun i c hi => ?_) (fun ad had => ?_) (fun i j c d hi hj => ?_) (fun i j c d hi hj => ?_)
      · have hlt : i < len := by rw [← hsl]; exact (List.getElem?_eq_some_iff.1 hi).1
        rw [hgl i hlt] at hi; cases hi; rfl
      · cases had
        exact hsp
      · have hlt : i < len := by rw [← hsl]; exact (List.getElem?_eq_some_iff.1 hi).1
        rw [hgl i hlt] at hi; cases hi
        cases j with
        | zero => exact hat i hlt
        | succ j => simp at hj
      · have hlt : i < len := by rw [← hsl]; exact (List.getElem?_eq_some_iff.1 hi).1
        rw [hgl i hlt] at hi; cases hi
        cases j with
        | zero => simp at hj; subst hj; exact .lit _ rfl
        | succ j => simp at hj
    rw [hsl] at key
    exact key
end

structure RelOf (W : World) where
  d : DV
  v : Value
  h : RelD W β0 [] d v
theorem relL_args {W : World} (l : List (RelOf W)) : RelL W β0 [] (l.map (·.d)) (l.map (·.v)).toArray := by
  refine ⟨by simp, fun i d hi => ?_⟩
  rw [List.getElem?_map] at hi
  cases h : l[i]? with
  | none => simp [h] at hi
  | some r => simp [h] at hi; subst hi; simpa [Array.getD_eq_getD_getElem?, h] using r.h
end Go.V
