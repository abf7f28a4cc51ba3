/-
  V, part 31: a region's edges closed, so that a chain may run through operations that wait for one another by others.
-/
import Derived.Test.YtjiaadkncpajnaaV2
import Derived.Lib.Overlaps
import Derived.Carry
import Derived.Deep.Slices
import Derived.OpenShut
namespace Go.V

def aft (o : Oper) (l : List Nat) : Oper := { o with after := (o.after.toList ++ l.map fun i => (⟨i, .data⟩ : Edge)).toArray }
def tclL (D : List (List Nat)) : Nat → List Oper → List Oper
  | _, [] => []
  | j, o :: r => aft o (D.getD j []) :: tclL D (j + 1) r
def tcl (ops : Array Oper) (D : List (List Nat)) : Array Oper := (tclL D 0 ops.toList).toArray
/-- What is added is implied. -/
def dOk (ops : Array Oper) (D : List (List Nat)) : Bool :=
  (List.range ops.size).all fun j => (D.getD j []).all fun i => bnd ops j i || (List.range ops.size).any fun m => bnd ops j m && (D.getD m []).contains i

theorem tclL_get (D : List (List Nat)) : ∀ (l : List Oper) (j i : Nat), (tclL D j l)[i]? = l[i]?.map fun o => aft o (D.getD (j + i) [])
  | [], j, i => by simp [tclL]
  | o :: r, j, 0 => by simp [tclL]
  | o :: r, j, i + 1 => by
    simp only [tclL, List.getElem?_cons_succ]
    rw [tclL_get D r (j + 1) i, Nat.add_right_comm]; rfl
theorem tcl_get (ops : Array Oper) (D : List (List Nat)) (i : Nat) : (tcl ops D)[i]? = ops[i]?.map fun o => aft o (D.getD i []) := by
  have := tclL_get D ops.toList 0 i
  simpa [tcl] using this
theorem tclL_len (D : List (List Nat)) : ∀ (l : List Oper) (j : Nat), (tclL D j l).length = l.length
  | [], _ => rfl
  | o :: r, j => by simp [tclL, tclL_len D r]
theorem tcl_size (ops : Array Oper) (D : List (List Nat)) : (tcl ops D).size = ops.size := by simp [tcl, tclL_len]

section
variable {P : Program} {ops : Array Oper} {D : List (List Nat)} {Q : Exit → Act → World → Prop}

theorem tcl_dst (i : Nat) : ((tcl ops D)[i]?).bind (·.dst) = (ops[i]?).bind (·.dst) := by
  rw [tcl_get]; cases ops[i]? <;> rfl
theorem tcl_yielded (tmps : Array Value) : yielded (tcl ops D) tmps = yielded ops tmps := by
  funext j
  unfold yielded
  rw [tcl_dst]

theorem tcl_wpOp {i : Nat} {K : Act → World → Prop} {a : Act} {w : World} (h : wpOp P (tcl ops D) Q i K a w) : wpOp P ops Q i K a w := by
  unfold wpOp at h ⊢
  rw [tcl_get] at h
  cases ho : ops[i]? with
  | none => simpa [ho] using h
  | some o =>
    simp only [ho, Option.map_some] at h ⊢
    rw [tcl_yielded] at h
    exact h

def Cl (D : List (List Nat)) (L : Array Bool) : Prop := ∀ j, j < L.size → L.getD j false = true → ∀ i ∈ D.getD j [], L.getD i false = true

theorem tcl_ready (hd : dOk ops D = true) {L : Array Bool} (hs : L.size = ops.size) (hc : Cl D L) (i : Nat) (h : i ∈ Region.ready .any ops L) : i ∈ Region.ready .any (tcl ops D) L ∧ ∀ m ∈ D.getD i [], L.getD m false = true := by
  obtain ⟨h0, o, ho, hdep⟩ := mem_ready.1 h
  have hlt : i < ops.size := (Array.getElem?_eq_some_iff.1 ho).1
  have key : ∀ m ∈ D.getD i [], L.getD m false = true := by
    intro m hm
    have h1 := List.all_eq_true.1 hd i (List.mem_range.2 hlt)
    have h2 := List.all_eq_true.1 h1 m hm
    rw [Bool.or_eq_true] at h2
    have dep : ∀ x, bnd ops i x = true → L.getD x false = true := by
      intro x hx
      unfold bnd at hx
      rw [ho] at hx
      simp only [List.any_eq_true, Bool.and_eq_true, beq_iff_eq] at hx
      obtain ⟨e, he, hb, rfl⟩ := hx
      exact hdep e (by simpa using he) hb
    rcases h2 with h2 | h2
    · exact dep m h2
    · obtain ⟨x, hx, h3⟩ := List.any_eq_true.1 h2
      rw [Bool.and_eq_true] at h3
      exact hc x (by rw [hs]; exact List.mem_range.1 hx) (dep x h3.1) m (by simpa using h3.2)
  refine ⟨mem_ready.2 ⟨h0, aft o (D.getD i []), by rw [tcl_get, ho]; rfl, fun e he hb => ?_⟩, key⟩
  simp only [aft, List.mem_toArray, List.mem_append, List.mem_map] at he
  rcases he with he | ⟨m, hm, rfl⟩
  · exact hdep e (by simpa using he) hb
  · exact key m hm

theorem tcl_ready_nil {L : Array Bool} (hs : L.size = ops.size) (hd : dOk ops D = true) (hc : Cl D L) : (Region.ready .any ops L = [] ↔ Region.ready .any (tcl ops D) L = []) := by
  constructor
  · intro h
    apply List.eq_nil_iff_forall_not_mem.2
    intro j hj
    obtain ⟨h0, o, ho, hdep⟩ := mem_ready.1 hj
    rw [tcl_get] at ho
    cases hj' : ops[j]? with
    | none => rw [hj'] at ho; cases ho
    | some o' =>
      rw [hj'] at ho
      simp only [Option.map_some, Option.some.injEq] at ho
      subst ho
      have : j ∈ Region.ready .any ops L := mem_ready.2 ⟨h0, o', hj', fun e he hb => hdep e (by simp only [aft, List.mem_toArray, List.mem_append]; exact .inl (by simpa using he)) hb⟩
      rw [h] at this; cases this
  · intro h
    apply List.eq_nil_iff_forall_not_mem.2
    intro j hj
    have := (tcl_ready hd hs hc j hj).1
    rw [h] at this; cases this

theorem tcl_wpAny (hd : dOk ops D = true) : ∀ (fuel : Nat) (L : Array Bool) (a : Act) (w : World), L.size = ops.size → Cl D L → wpAny P .any (tcl ops D) Q fuel L a w → wpAny P .any ops Q fuel L a w
  | 0, L, a, w, hs, hc, h => ⟨(tcl_ready_nil hs hd hc).2 h.1, h.2⟩
  | fuel + 1, L, a, w, hs, hc, h => by
    refine ⟨fun hr => h.1 ((tcl_ready_nil hs hd hc).1 hr), fun i hi => ?_⟩
    obtain ⟨h1, h2⟩ := tcl_ready hd hs hc i hi
    refine wpOp_mono (fun a w hw => tcl_wpAny hd fuel _ a w (by simpa using hs) ?_ hw) (tcl_wpOp (h.2 i h1))
    intro j hj hl m hm
    by_cases hji : j = i
    · subst hji
      have := h2 m hm
      by_cases hmj : m = j
      · subst hmj; exact hl
      · rw [getD_set_ne false (Ne.symm hmj)]; exact this
    · rw [getD_set_ne false (Ne.symm hji)] at hl
      have := hc j (by simpa using hj) hl m hm
      by_cases hmi : m = i
      · subst hmi
        have hlt : m < L.size := by
          rcases Nat.lt_or_ge m L.size with h | h
          · exact h
          · simp [h] at this
        simp [hlt]
      · rw [getD_set_ne false (Ne.symm hmi)]; exact this

/-- The same operations, but for their edges. -/
inductive SameL : List Oper → List Oper → Prop
  | nil : SameL [] []
  | cons (o : Oper) (l : List Nat) {r r' : List Oper} : SameL r r' → SameL (aft o l :: r) (o :: r')
theorem pick_same : ∀ (l : List Nat), SameL (pick (tcl ops D).toList l) (pick ops.toList l)
  | [] => .nil
  | i :: r => by
    have h : (tcl ops D).toList[i]? = (ops[i]?).map fun o => aft o (D.getD i []) := by
      have := tcl_get ops D i
      simpa using this
    have h' : ops.toList[i]? = ops[i]? := by simp
    rw [pick, pick, h, h']
    cases ops[i]? with
    | none => exact pick_same r
    | some o => exact .cons o _ (pick_same r)
theorem tcl_vguard {S : St} {o : Oper} {l : List Nat} : vguard (tcl ops D).toList S (aft o l) = vguard ops.toList S o := by
  have key : ∀ j : Nat, (tcl ops D).toList[j]?.bind (·.dst) = ops.toList[j]?.bind (·.dst) := fun j => by
    have := tcl_dst (ops := ops) (D := D) j
    simpa using this
  unfold vguard
  have e : (aft o l).guard = o.guard := rfl
  rw [e]
  simp only [key]
theorem tcl_vrun : ∀ {l' l : List Oper}, SameL l' l → ∀ {K K' : St → Prop} {S : St}, (∀ S, K S → K' S) → vrun P ops.toList l K S → vrun P (tcl ops D).toList l' K' S := by
  intro l' l hs
  induction hs with
  | nil => intro K K' S hk h; exact hk S h
  | cons o x _ ih =>
    intro K K' S hk h
    unfold vrun at h ⊢
    rw [tcl_vguard]
    refine ⟨h.1, ?_⟩
    have h2 := h.2
    have e1 : (aft o x).op = o.op := rfl
    have e2 : (aft o x).guard = o.guard := rfl
    have e3 : (aft o x).dst = o.dst := rfl
    rw [e1, e2, e3]
    clear h
    generalize vguard ops.toList S o = gd at h2 ⊢
    split at h2
    · exact h2.elim
    · exact ih hk h2
    · split at h2
      · rename_i g args hc
        exact h2.mono fun r h' q => ih hk q
      · split at h2
        · rename_i d hp' hv
          exact ih hk h2
        · exact h2.elim
theorem tcl_agree {S S1 : St} : ∀ {l' l : List Oper}, SameL l' l → agree ops.toList S S1 l → agree (tcl ops D).toList S S1 l' := by
  intro l' l hs
  induction hs with
  | nil => intro h; exact h
  | cons o x _ ih =>
    intro h
    refine ⟨?_, ih h.2⟩
    rw [tcl_vguard]
    exact h.1
theorem tcl_creas {S : St} : ∀ {l' l : List Oper}, SameL l' l → creasOk P S l → creasOk P S l' := by
  intro l' l hs
  induction hs with
  | nil => intro h; exact h
  | cons o x _ ih => intro h; exact ⟨h.1, ih h.2⟩
theorem tcl_vsp {K : St → Prop} : ∀ {segs : List Seg} {S : St}, vsp P ops.toList segs K S → vsp P (tcl ops D).toList segs K S
  | [], S, h => h
  | s :: r, S, h => by
    unfold vsp at h ⊢
    exact ⟨tcl_creas (pick_same _) h.1, tcl_vrun (pick_same _) (fun S1 ⟨a, b⟩ => ⟨tcl_agree (pick_same _) a, tcl_vrun (pick_same _) (fun S h => tcl_vsp h) b⟩) h.2⟩

end

/-- A region that draws its order, with a spine whose edges are closed by D. -/
theorem vspineT {P : Program} {ops : Array Oper} {id : Nat} {Q : Exit → St → Prop} {S : St} (D : List (List Nat)) (H0 : List Nat) (segs : List Seg) (hm : P.follows .mixedOrders = true) (hd : dOk ops D = true) (hok : spineOk (tcl ops D) H0 segs = true)
    (h : vrun P ops.toList (pick ops.toList H0) (vsp P ops.toList segs (Q .normal)) S) : VDraw P id ops Q S := by
  have h' : vrun P (tcl ops D).toList (pick (tcl ops D).toList H0) (vsp P (tcl ops D).toList segs (Q .normal)) S := tcl_vrun (pick_same _) (fun S h => tcl_vsp h) h
  intro O β a w hs
  have hw := vspine_any (ops := tcl ops D) H0 segs hok h' hs
  rw [tcl_size] at hw
  refine wp_region_any hm (tcl_wpAny hd _ _ _ _ (by simp) (fun j _ hl => ?_) hw)
  by_cases hj : j < ops.size <;> simp [hj] at hl
end Go.V

/-
  V, part 30: lists of strings; texts of numbers that are drawn.
-/
namespace Go.V
/-- Codes: the numbers, and how many are used. -/
structure C where
  l : List UInt8
  at_ : Nat
  ha : at_ ≤ l.length
  hl : l.length ≤ 1000000
def cc (c : C) : List DV := [.pv (.sl (fz encU c.l)), .int .i64 c.at_]
theorem cc_nums (c : C) : DV.nums.go (fun _ => false) (cc c) = true := rfl
theorem tmod_lt' (x n : Nat) (h : 1 ≤ n) : ∃ y : Nat, (x : Int).tmod n = y ∧ y < n := ⟨x % n, by rw [Int.ofNat_tmod], Nat.mod_lt _ h⟩
end Go.V

/-
  V, part 32: code in parts: what a part leaves may be forgotten before the next is reckoned.
-/
namespace Go.V

theorem VWp.weak {P : Program} {c : Code} {Q : Exit → St → Prop} {S S' : St} (h : VWp P c Q S') (hw : Weak S S') : VWp P c Q S := fun O _ a w hs =>
  let ⟨_, h'⟩ := hs.weak hw
  h O _ a w h'

end Go.V

/-
  V, part 34: calls with slices of the call's own whose room is looked at; slices.overlaps; a result that gets a number of its own.
-/
namespace Go.V
open Go.Lib

theorem relL_head {w : World} {β : Map} {hp : Heap} {d : DV} {ds : List DV} {vs : Array Value} (h : RelL w β hp (d :: ds) vs) : RelD w β hp d (vs.getD 0 undef) := h.2 0 d rfl

/-- A slice of the caller's, its room named. -/
theorem VCalls.room {P : Program} {g : FuncId} {k sz off len : Nat} {rest : List DV} {hp : Heap} {R : DV → Heap → Prop} (h0 : 0 < len) (h : ∀ cap, len ≤ cap → VCalls P g (.ownc k sz off len cap :: rest) hp R) : VCalls P g (.own k sz off len :: rest) hp R := by
  refine ⟨fun w β vs hh ha => ?_⟩
  have h1 := relL_head ha
  have key : ∃ cap, len ≤ cap ∧ RelD w β hp (.ownc k sz off len cap) (vs.getD 0 undef) := by
    generalize vs.getD 0 undef = v at h1
    cases h1 with
    | own0 => omega
    | own _ _ _ _ cap b C T m hk hm h1 h2 h3 h4 => exact ⟨cap, h1, .ownc _ _ _ _ _ b off C T m hk hm h1 h2 h3 h4 (fun _ => rfl)⟩
  obtain ⟨cap, hc, hr⟩ := key
  refine (h cap hc).run w β vs hh ⟨ha.1, fun i d hd => ?_⟩
  cases i with
  | zero => simp at hd; subst hd; exact hr
  | succ i => exact ha.2 (i + 1) d (by simpa using hd)

/-- A slice without elements, opened: it may be nil or not. -/
theorem VCalls.open0 {P : Program} {g : FuncId} {rest : List DV} {hp : Heap} {R : DV → Heap → Prop} (h : ∀ ad cap, (∀ a, ad = some a → a.spot = none) → VCalls P g (.pv (.lit (.slice ad 0 cap)) :: rest) hp R) : VCalls P g (.pv (.sl []) :: rest) hp R := by
  refine ⟨fun w β vs hh ha => ?_⟩
  have h1 := relL_head ha
  have key : ∃ ad cap, (∀ a, ad = some a → a.spot = none) ∧ RelD w β hp (.pv (.lit (.slice ad 0 cap))) (vs.getD 0 undef) := by
    generalize vs.getD 0 undef = v at h1
    cases h1 with
    | pv _ _ hp0 => cases hp0 with
      | sl _ a cap sz val h1 h2 h3 h4 h5 h6 => exact ⟨a, cap, h4, .pv _ _ (.lit _ rfl)⟩
  obtain ⟨ad, cap, hs, hr⟩ := key
  refine (h ad cap hs).run w β vs hh ⟨ha.1, fun i d hd => ?_⟩
  cases i with
  | zero => simp at hd; subst hd; exact hr
  | succ i => exact ha.2 (i + 1) d (by simpa using hd)

theorem frozen_row {w : World} {b o : Nat} {C : Array Value} {T : TypeId} {m : Nat × Nat} (h : w.heap[b]? = some (.cells C T m)) (hm : m.2 ≤ m.1) : w.frozen? ⟨b, o, none⟩ = false := by
  obtain ⟨lo, up⟩ := m
  dsimp only at hm
  have : ¬ (lo ≤ o ∧ o < up) := by omega
  simp only [World.frozen?, h]
  simpa using this

/-- slices.overlaps at slices of two blocks. -/
theorem vcalls_apart {P : Program} {g : FuncId} {fn : Func} {hp : Heap} {k sz off len k2 sz2 off2 len2 cap2 : Nat} {tS tR e : TypeId} {n : Nat} {B B2 : Blk} (hf : P.funcs[g]? = some fn) (hname : (fn.name == "runtime.NumGoroutine") = false) (hb : fn.body.isNone = true) (hn : Extern.findNext fn = none)
    (he : Extern.find fn = some (Extern.SlicesOverlaps.overlaps #[tS, tS] #[tR])) (ht : velem P tS = some (none, e, n)) (hk : hp[k]? = some B) (hl : B.live = true) (hk2 : hp[k2]? = some B2) (hl2 : B2.live = true) (hne : k ≠ k2) (hlen : 0 < len) (hsz : 0 < B2.cells.length) :
    VCalls P g [.own k sz off len, .ownc k2 sz2 off2 len2 cap2] hp fun r h' => r = .bool false ∧ h' = hp := by
  refine ⟨fun w β vs hh ha => ?_⟩
  obtain ⟨hu, i, hi, rfl⟩ := velem_slice ht
  have h1 := ha.2 0 _ rfl
  have h2 := ha.2 1 _ rfl
  have hvs : vs = #[vs.getD 0 undef, vs.getD 1 undef] := by
    have h1 := ha.1
    simp at h1
    apply Array.ext
    · simp; omega
    · intro i h2 h3
      simp at h3
      match i, h3 with
      | 0, _ => simp [Array.getElem?_eq_getElem h2]
      | 1, _ => simp [Array.getElem?_eq_getElem h2]
  generalize vs.getD 0 undef = v at *
  generalize vs.getD 1 undef = u at *
  subst hvs
  have key : (Extern.SlicesOverlaps.overlaps #[tS, tS] #[tR] #[v, u]).run P w = .ok (.bool false) w := by
    cases h2 with
    | ownc _ _ _ _ _ b2 o2 C2 T2 m2 _ hm2 g1 g2 g3 g4 g5 =>
      cases h1 with
      | own0 => omega
      | own _ _ _ _ cap b C T m _ hm f1 f2 f3 f4 =>
        obtain ⟨C0, c1, _, _⟩ := hh.blk k B b hk hl hm
        obtain ⟨C20, d1, d2, _⟩ := hh.blk k2 B2 b2 hk2 hl2 hm2
        have hbb : b ≠ b2 := fun e => hne (hh.inj k k2 B B2 b hk hk2 hl hl2 hm (by rw [e]; exact hm2))
        rw [f3] at c1
        simp at c1
        obtain ⟨rfl, rfl, rfl⟩ := c1
        rw [g3] at d1
        simp at d1
        obtain ⟨rfl, rfl, rfl⟩ := d1
        refine run_overlaps_apart w tS tR e hu i.size (fun w => by simp [sizeOf, typeInfo, hi]) ⟨b, off, none⟩ ⟨b2, o2, none⟩ len cap len2 cap2 hbb _ _ _ _ (by simp [World.shape?, f3]; exact ⟨rfl, rfl⟩) (by simp [World.shape?, g3]; exact ⟨rfl, rfl⟩) (by omega) ?_ ?_
        · exact frozen_row f3 C0.ok
        · exact frozen_row f3 C0.ok
  refine .inr ⟨fn, .bool false, w, hf, hb, ?_, .bool false, .bool false, hp, β, rfl, Evo.refl w β hp, hh, .pv _ _ (.lit _ rfl), rfl, rfl⟩
  rw [run_callFunc_extern hf hname hb hn he]
  simp [key]

mutual
theorem nums_ren_d (σ : Nat → Nat) : ∀ (d : DV), (d.ren σ).nums (fun _ => false) = true → d.nums (fun _ => false) = true
  | .pv _, _ => rfl
  | .ptr _ _, h => h
  | .own _ _ _ _, h => h
  | .ownc _ _ _ _ _, h => h
  | .ip _, _ => rfl
  | .any, _ => rfl
  | .agg cs, h => nums_ren_go σ cs h
  | .tup cs, h => nums_ren_go σ cs h
  | .fn f a b, h => by
    simp only [DV.ren, DV.nums, Bool.and_eq_true] at h ⊢
    exact ⟨nums_ren_go σ a h.1, nums_ren_go σ b h.2⟩
  | .opt c d, h => nums_ren_d σ d h
theorem nums_ren_go (σ : Nat → Nat) : ∀ (ds : List DV), DV.nums.go (fun _ => false) (DV.ren.go σ ds) = true → DV.nums.go (fun _ => false) ds = true
  | [], _ => rfl
  | d :: r, h => by
    simp only [DV.ren.go, DV.nums.go, Bool.and_eq_true] at h ⊢
    exact ⟨nums_ren_d σ d h.1, nums_ren_go σ r h.2⟩
end

/-- Blocks that nobody holds any more, but those of kp. -/
def deadK (kp : Nat → Bool) (h : Heap) : Heap := h.mapIdx fun i B => if kp i then B else ⟨B.ty, false, []⟩
theorem deadK_len (kp : Nat → Bool) (h : Heap) : (deadK kp h).length = h.length := by simp [deadK]
theorem deadK_get {kp : Nat → Bool} {h : Heap} {k : Nat} {B : Blk} (hk : (deadK kp h)[k]? = some B) (hl : B.live = true) : kp k = true ∧ h[k]? = some B := by
  unfold deadK at hk
  rw [List.getElem?_mapIdx] at hk
  obtain ⟨x, h1, h2⟩ := map_eq hk
  split at h2
  · rename_i hkp
    subst h2
    exact ⟨hkp, h1⟩
  · subst h2
    cases hl

/-- What comes back of a call is one slice, which gets a number of its own; all else is given up, but blocks that are as they were. -/
theorem VCalls.freshK {P : Program} {g : FuncId} {args : List DV} {h : Heap} (kp : Nat → Bool) {R : DV → Heap → Prop} {R' : Nat → Nat → TypeId → List DV → Prop} (c : VCalls P g args h R)
    (hR : ∀ r h', R r h' → (∀ i B, kp i = true → h[i]? = some B → h'[i]? = some B ∧ DV.nums.go (fun _ => false) B.cells = true) ∧ ∃ sz n T cs, ((r = .pv (.slc []) ∧ n = 0 ∧ cs = []) ∨ ∃ k, (r = .own k sz 0 n ∨ ∃ cap, 0 < cap ∧ r = .ownc k sz 0 n cap) ∧ (kp k = true → h.length ≤ k) ∧ h'[k]? = some ⟨T, true, cs⟩ ∧ DV.nums.go (fun _ => false) cs = true) ∧ R' sz n T cs) :
    VCalls P g args h fun r h' => ∃ sz n T cs, R' sz n T cs ∧ r = .own h.length sz 0 n ∧ h' = deadK kp h ++ [⟨T, true, cs⟩] := by
  refine ⟨fun w β vs hh ha => (c.run w β vs hh ha).mono ?_⟩
  rintro e w' ⟨v, r, h', β', rfl, ev, hh', hr, hq⟩
  obtain ⟨hkeep, sz, n, T, cs, hrk, hR'⟩ := hR r h' hq
  obtain ⟨fk, hnum, hlive, hnone, hval⟩ : ∃ fk : Option Nat, DV.nums.go (fun _ => false) cs = true ∧ (∀ b, fk = some b → ∃ k, h'[k]? = some ⟨T, true, cs⟩ ∧ β'.f k = some b ∧ (kp k = true → h.length ≤ k)) ∧ (fk = none → cs = []) ∧
      ∀ (β2 : Map) (h2 : Heap) (j : Nat), j < h2.length → β2.f j = fk → RelD w' β2 h2 (.own j sz 0 n) v := by
    rcases hrk with ⟨rfl, rfl, rfl⟩ | ⟨k, hrk, hkp, hk, hnum⟩
    · refine ⟨none, rfl, by simp, fun _ => rfl, fun β2 h2 j hj hf => ?_⟩
      cases hr with
      | pv _ _ hp0 => cases hp0 with
        | slc _ a sz2 val h1 h2 h3 h4 h5 => exact .own0 _ _ a hj hf h3
    · refine ⟨β'.f k, hnum, fun b hb => ⟨k, hk, hb, hkp⟩, fun hn => hh'.none k _ hk rfl hn, fun β2 h2 j hj hf => ?_⟩
      rcases hrk with rfl | ⟨cap, hcap, rfl⟩
      · cases hr with
        | own _ _ _ _ cap b C T' m _ hm h1 h2 h3 h4 => exact .own _ _ _ _ cap b C T' m hj (hf.trans hm) h1 h2 h3 h4
        | own0 _ _ a _ hm h1 => exact .own0 _ _ a hj (hf.trans hm) h1
      · cases hr with
        | ownc _ _ _ _ _ b o C T' m _ hm h1 h2 h3 h4 h5 =>
          rw [h5 hcap]
          exact .own _ _ _ _ cap b C T' m hj (hf.trans hm) h1 h2 h3 h4
  have at_ : ∀ {j : Nat} {D : Blk}, (deadK kp h ++ [(⟨T, true, cs⟩ : Blk)])[j]? = some D → D.live = true → (j < h.length ∧ kp j = true ∧ h[j]? = some D) ∨ (j = h.length ∧ D = ⟨T, true, cs⟩) := fun {j D} hj hD => by
    rw [List.getElem?_append, deadK_len] at hj
    split at hj
    · rename_i hlt
      obtain ⟨g1, g2⟩ := deadK_get hj hD
      exact .inl ⟨hlt, g1, g2⟩
    · rename_i hge
      have hj0 : j - h.length = 0 := by
        rcases Nat.eq_zero_or_pos (j - h.length) with h0 | h0
        · exact h0
        · rw [List.getElem?_eq_none (by simp; omega)] at hj; cases hj
      rw [hj0] at hj
      simp at hj
      exact .inr ⟨by omega, hj.symm⟩
  have fnew : (ext β h.length fk).f h.length = fk := by simp [ext]
  have fold : ∀ {j}, j < h.length → (ext β h.length fk).f j = β'.f j := fun {j} hj => by rw [ext_lt hj, ev.beta j hj]
  -- each block of the new heap is one of the old
  have src : ∀ {j : Nat} {D : Blk}, (deadK kp h ++ [(⟨T, true, cs⟩ : Blk)])[j]? = some D → D.live = true → DV.nums.go (fun _ => false) D.cells = true ∧ ((ext β h.length fk).f j = none → D.cells = []) ∧ (∀ b, (ext β h.length fk).f j = some b → ∃ k, h'[k]? = some D ∧ β'.f k = some b ∧ ((j < h.length ∧ k = j) ∨ (j = h.length ∧ (kp k = true → h.length ≤ k)))) := fun {j D} hj hD => by
    rcases at_ hj hD with ⟨hlt, g1, g2⟩ | ⟨rfl, rfl⟩
    · obtain ⟨g3, g4⟩ := hkeep j D g1 g2
      rw [fold hlt]
      exact ⟨g4, fun hn => hh'.none j D g3 hD hn, fun b hb => ⟨j, g3, hb, .inl ⟨hlt, rfl⟩⟩⟩
    · rw [fnew]
      exact ⟨hnum, hnone, fun b hb => by obtain ⟨k, k1, k2, k3⟩ := hlive b hb; exact ⟨k, k1, k2, .inr ⟨rfl, k3⟩⟩⟩
  have lv : ∀ b, live (ext β h.length fk) (deadK kp h ++ [(⟨T, true, cs⟩ : Blk)]) b → live β' h' b := by
    rintro b ⟨j, D, h1, h2, h3⟩
    obtain ⟨_, _, hs⟩ := src h1 h2
    obtain ⟨k, k1, k2, _⟩ := hs b h3
    exact ⟨k, D, k1, h2, k2⟩
  have im : ∀ b, img (ext β h.length fk) (deadK kp h ++ [(⟨T, true, cs⟩ : Blk)]) b → img β' h' b := by
    rintro b (hb | hb)
    · exact .inl (by rw [ev.X]; exact hb)
    · exact .inr (lv b hb)
  have rel : ∀ {ds : List DV}, DV.nums.go (fun _ => false) ds = true → ∀ (i : Nat) (d : DV), ds[i]? = some d → ∀ u, RelD w' β' h' d u → RelD w' (ext β h.length fk) (deadK kp h ++ [(⟨T, true, cs⟩ : Blk)]) d u := fun {ds} hnum i d hd u hu => by
    have hn : d.nums (fun _ => false) = true := DV.nums_go hnum i d hd
    have := RelD.ren (σ := fun _ => 0) (p := fun _ => false) (β' := ext β h.length fk) (hp' := deadK kp h ++ [(⟨T, true, cs⟩ : Blk)]) (fun _ h => by cases h) im hu hn
    rwa [ren_id _ d hn] at this
  have evo : Evo w β h w' (ext β h.length fk) (deadK kp h ++ [(⟨T, true, cs⟩ : Blk)]) :=
    ⟨ev.os, ev.tape, ev.output, ev.size, by simp [deadK_len], fun j hj => ext_lt hj, ev.same, ev.shape, fun b hb hl => ev.im b hb (lv b hl), rfl⟩
  have heap : HeapRel w' (ext β h.length fk) (deadK kp h ++ [(⟨T, true, cs⟩ : Blk)]) := by
    refine ⟨fun j D b h1 h2 h3 => ?_, fun j D h1 h2 h3 => ?_, fun i j D D' b h1 h2 h3 h4 f1 f2 => ?_, fun j D b h1 h2 h3 => ?_, fun b hb => Nat.lt_of_lt_of_le (hh.bound b hb) ev.size⟩
    · obtain ⟨s1, _, s2⟩ := src h1 h2
      obtain ⟨k, hk, hb, _⟩ := s2 b h3
      obtain ⟨C, c1, c2, c3⟩ := hh'.blk k D b hk h2 hb
      exact ⟨C, c1, c2, fun i d hd => ⟨(c3 i d hd).1, rel s1 i d hd _ (c3 i d hd).2⟩⟩
    · obtain ⟨_, s1, _⟩ := src h1 h2
      exact s1 h3
    · obtain ⟨_, _, s1⟩ := src h1 h3
      obtain ⟨_, _, s2⟩ := src h2 h4
      obtain ⟨k, k1, k2, k3⟩ := s1 b f1
      obtain ⟨l, l1, l2, l3⟩ := s2 b f2
      have e := hh'.inj k l D D' b k1 l1 h3 h4 k2 l2
      subst e
      rcases at_ h1 h3 with ⟨p1, p2, _⟩ | ⟨p1, _⟩ <;> rcases at_ h2 h4 with ⟨q1, q2, _⟩ | ⟨q1, _⟩
      · rcases k3 with ⟨_, k3⟩ | ⟨k3, _⟩ <;> rcases l3 with ⟨_, l3⟩ | ⟨l3, _⟩ <;> omega
      · rcases k3 with ⟨_, k3⟩ | ⟨k3, _⟩
        · subst k3
          rcases l3 with ⟨l3, _⟩ | ⟨_, l3⟩
          · omega
          · have := l3 p2; omega
        · omega
      · rcases l3 with ⟨_, l3⟩ | ⟨l3, _⟩
        · subst l3
          rcases k3 with ⟨k3, _⟩ | ⟨_, k3⟩
          · omega
          · have := k3 q2; omega
        · omega
      · omega
    · obtain ⟨_, _, s2⟩ := src h1 h2
      obtain ⟨k, hk, hb, _⟩ := s2 b h3
      have := hh'.avoid k D b hk h2 hb
      rwa [ev.X] at this
  exact ⟨v, .own h.length sz 0 n, _, _, rfl, evo, heap, hval _ _ _ (by simp [deadK_len]) fnew, sz, n, T, cs, hR', rfl, rfl⟩

theorem kill_at (hp : Heap) (k j : Nat) : (kill hp k)[j]? = if j = k then (hp[j]?).map (fun B => ⟨B.ty, false, []⟩) else hp[j]? := by
  unfold kill
  split
  · rename_i B hk
    have hlt := (List.getElem?_eq_some_iff.1 hk).1
    by_cases e : j = k
    · subst e; rw [if_pos rfl, List.getElem?_set_self hlt, hk]; rfl
    · rw [if_neg e, List.getElem?_set_ne (by omega)]
  · rename_i hk
    split
    · rename_i e; subst e; rw [hk]; rfl
    · rfl
theorem kills_at (hp : Heap) (l : List Nat) (j : Nat) : (kills hp l)[j]? = if j ∈ l then (hp[j]?).map (fun B => ⟨B.ty, false, []⟩) else hp[j]? := by
  induction l generalizing hp with
  | nil => simp [kills]
  | cons k r ih =>
    rw [kills, ih, kill_at]
    by_cases e : j = k
    · subst e
      simp only [if_true, List.mem_cons, true_or]
      split
      · cases hp[j]? <;> rfl
      · rfl
    · simp only [List.mem_cons, e, false_or, if_false]

/-- A contract whose answer is one new slice, at a call: 'sel': the blocks that are handed over; 'kp': which of them stay as they are. -/
theorem vc_freshK {P : Program} {g : FuncId} {args args0 : List DV} {hp h0 : Heap} {K : DV → Heap → Prop} {R' : Nat → Nat → TypeId → List DV → Prop} (sel : List Nat) (kp : Nat → Bool) (hnd : sel.Nodup) (hl : lentTo hp sel = some h0) (hok : lentOk hp sel = true)
    (c : VCalls P g args0 h0 fun r h' => ∃ sz n T cs, R' sz n T cs ∧ r = .own h0.length sz 0 n ∧ h' = deadK kp h0 ++ [⟨T, true, cs⟩]) (ha0 : args0 = args.map (DV.ren fun j => sel.idxOf j)) (ha : DV.nums.go sel.contains args = true)
    (hkeep : ∀ i B, kp i = true → h0[i]? = some B → DV.nums.go (fun _ => false) B.cells = true) (hR : ∀ sz n T cs, R' sz n T cs → DV.nums.go (fun _ => false) cs = true)
    (h : ∀ sz n T cs, R' sz n T cs → K (.own hp.length sz 0 n) (kills hp (sel.filter fun k => !kp (sel.idxOf k)) ++ [⟨T, true, cs⟩])) : VCalls P g args hp K := by
  refine (VCalls.frame sel hnd hl hok c ha0 ha).mono ?_
  rintro r h2 ⟨r0, h', ⟨sz, n, T, cs, hR1, rfl, rfl⟩, hlen, rfl, rfl⟩
  obtain ⟨l1, l2⟩ := allSome_get hl
  have hlen0 : h0.length = sel.length := by rw [l1, List.length_map]
  have e1 : DV.ren (back sel hp.length) (.own h0.length sz 0 n) = .own hp.length sz 0 n := by
    simp [DV.ren, back, hlen0]
  have hcs := hR sz n T cs hR1
  have rb : ∀ {σ : Nat → Nat} {B : Blk}, DV.nums.go (fun _ => false) B.cells = true → renB σ B = B := fun {σ B} hB => by
    obtain ⟨t, lv, c⟩ := B
    simp only [renB]
    rw [← DV.ren_go, ren_id_go _ _ hB]
  have e2 : behind hp sel (deadK kp h0 ++ [(⟨T, true, cs⟩ : Blk)]) = kills hp (sel.filter fun k => !kp (sel.idxOf k)) ++ [⟨T, true, cs⟩] := by
    have hd : (deadK kp h0 ++ [(⟨T, true, cs⟩ : Blk)]).drop sel.length = [⟨T, true, cs⟩] := by
      rw [List.drop_left' (by rw [deadK_len, hlen0])]
    unfold behind
    rw [hd, List.map_cons, List.map_nil, rb hcs]
    congr 1
    apply List.ext_getElem?
    intro j
    rw [kills_at, List.getElem?_map]
    by_cases hj : j < hp.length
    · rw [List.getElem?_range hj, Option.map_some]
      have hget : hp[j]? = some hp[j] := List.getElem?_eq_getElem hj
      by_cases hm : j ∈ sel
      · have hlt := List.idxOf_lt_length_of_mem hm
        have hc : sel.contains j = true := by simpa using hm
        rw [if_pos hc]
        have hi : sel[sel.idxOf j]? = some j := by rw [List.getElem?_eq_getElem hlt]; simp
        have hh0 : h0[sel.idxOf j]? = some (renB (fun j => sel.idxOf j) hp[j]) := by
          have hlt0 : sel.idxOf j < h0.length := by rw [hlen0]; exact hlt
          have h3 := l2 (sel.idxOf j) h0[sel.idxOf j] (List.getElem?_eq_getElem hlt0)
          rw [List.getElem?_map, hi, Option.map_some, hget] at h3
          simp at h3
          rw [List.getElem?_eq_getElem hlt0, ← h3]
        have hdk : (deadK kp h0 ++ [(⟨T, true, cs⟩ : Blk)]).getD (sel.idxOf j) default = if kp (sel.idxOf j) then renB (fun j => sel.idxOf j) hp[j] else ⟨hp[j].ty, false, []⟩ := by
          rw [List.getD_eq_getElem?_getD, List.getElem?_append_left (by rw [deadK_len, hlen0]; exact hlt), deadK, List.getElem?_mapIdx, hh0]
          cases kp (sel.idxOf j) <;> rfl
        rw [hdk]
        cases hkp : kp (sel.idxOf j) with
        | true =>
          have hnf : ¬ j ∈ sel.filter (fun k => !kp (sel.idxOf k)) := by simp [hkp]
          rw [if_neg hnf, hget]
          simp only [if_true]
          have hB := hkeep _ _ hkp hh0
          congr 1
          have hB' : DV.nums.go (fun _ => false) hp[j].cells = true := nums_ren_go (fun j => sel.idxOf j) _ (by rw [DV.ren_go]; exact hB)
          rw [rb hB, rb hB']
        | false =>
          have hnf : j ∈ sel.filter (fun k => !kp (sel.idxOf k)) := by simp [hkp, hm]
          rw [if_pos hnf, hget]
          rfl
      · have hc : sel.contains j = false := by simpa using hm
        have hnf : ¬ j ∈ sel.filter (fun k => !kp (sel.idxOf k)) := by simp [hm]
        rw [if_neg (by rw [hc]; simp), if_neg hnf, List.getD_eq_getElem?_getD, hget]; rfl
    · rw [List.getElem?_eq_none (l := List.range hp.length) (by simpa using Nat.le_of_not_lt hj), List.getElem?_eq_none (l := hp) (Nat.le_of_not_lt hj)]
      simp
  rw [e1, e2]
  exact h sz n T cs hR1

/-- One new slice comes back; of the blocks handed over those of kp are as they were. -/
abbrev NewSl (kp : Nat → Bool) (h : Heap) (sz n : Nat) (T : TypeId) (cs : List DV) : DV → Heap → Prop := fun r h' => r = .own h.length sz 0 n ∧ h' = deadK kp h ++ [⟨T, true, cs⟩]
/-- What may come back of the callee's code, before it gets its number. -/
def SomeSl (kp : Nat → Bool) (h : Heap) (sz n : Nat) (T : TypeId) (cs : List DV) : DV → Heap → Prop := fun r h' =>
  (∀ i B, kp i = true → h[i]? = some B → h'[i]? = some B ∧ DV.nums.go (fun _ => false) B.cells = true) ∧
  ((r = .pv (.slc []) ∧ n = 0 ∧ cs = []) ∨ ∃ k, (r = .own k sz 0 n ∨ ∃ cap, 0 < cap ∧ r = .ownc k sz 0 n cap) ∧ (kp k = true → h.length ≤ k) ∧ h'[k]? = some ⟨T, true, cs⟩ ∧ DV.nums.go (fun _ => false) cs = true)
theorem VCalls.newSl {P : Program} {g : FuncId} {args : List DV} {h : Heap} {kp : Nat → Bool} {sz n : Nat} {T : TypeId} {cs : List DV} (c : VCalls P g args h (SomeSl kp h sz n T cs)) : VCalls P g args h (NewSl kp h sz n T cs) := by
  refine (VCalls.freshK kp (R' := fun sz' n' T' cs' => sz' = sz ∧ n' = n ∧ T' = T ∧ cs' = cs) c fun r h' hr => ⟨hr.1, sz, n, T, cs, hr.2, rfl, rfl, rfl, rfl⟩).mono ?_
  rintro r h' ⟨_, _, _, _, ⟨rfl, rfl, rfl, rfl⟩, rfl, rfl⟩
  exact ⟨rfl, rfl⟩
theorem vc_new {P : Program} {g : FuncId} {args args0 : List DV} {hp h0 : Heap} {K : DV → Heap → Prop} {kp : Nat → Bool} {sz n : Nat} {T : TypeId} {cs : List DV} (sel : List Nat) (c : VCalls P g args0 h0 (NewSl kp h0 sz n T cs)) (hnd : sel.Nodup) (hl : lentTo hp sel = some h0) (hok : lentOk hp sel = true)
    (ha0 : args0 = args.map (DV.ren fun j => sel.idxOf j)) (ha : DV.nums.go sel.contains args = true)
    (hkeep : ∀ i B, kp i = true → h0[i]? = some B → DV.nums.go (fun _ => false) B.cells = true) (hc : DV.nums.go (fun _ => false) cs = true)
    (h : K (.own hp.length sz 0 n) (kills hp (sel.filter fun k => !kp (sel.idxOf k)) ++ [⟨T, true, cs⟩])) : VCalls P g args hp K := by
  refine vc_freshK (R' := fun sz' n' T' cs' => sz' = sz ∧ n' = n ∧ T' = T ∧ cs' = cs) sel kp hnd hl hok (c.mono fun r h' e => ⟨sz, n, T, cs, ⟨rfl, rfl, rfl, rfl⟩, e.1, e.2⟩) ha0 ha hkeep ?_ ?_
  · rintro _ _ _ _ ⟨rfl, rfl, rfl, rfl⟩; exact hc
  · rintro _ _ _ _ ⟨rfl, rfl, rfl, rfl⟩; exact h
/-- .. whose arguments name no block. -/
theorem vc_new0 {P : Program} {g : FuncId} {args : List DV} {hp : Heap} {K : DV → Heap → Prop} {kp : Nat → Bool} {sz n : Nat} {T : TypeId} {cs : List DV} (c : VCalls P g args [] (NewSl kp [] sz n T cs)) (ha : DV.nums.go (fun _ => false) args = true) (hc : DV.nums.go (fun _ => false) cs = true)
    (h : K (.own hp.length sz 0 n) (hp ++ [⟨T, true, cs⟩])) : VCalls P g args hp K := by
  refine vc_new [] c List.nodup_nil rfl rfl ?_ ?_ (by simp) hc ?_
  · rw [← DV.ren_go, ren_id_go _ _ ha]
  · rw [← ha]; congr 1
  · exact h

/-- Blocks of plain cells. -/
def plainL (hp : Heap) : List Nat → Prop
  | [] => True
  | k :: r => (k < hp.length ∧ DV.nums.go (fun _ => false) (hp.getD k default).cells = true) ∧ plainL hp r
theorem plainL_get {hp : Heap} {sel : List Nat} (h : plainL hp sel) : ∀ k ∈ sel, k < hp.length ∧ DV.nums.go (fun _ => false) (hp.getD k default).cells = true := by
  induction sel with
  | nil => simp
  | cons a r ih =>
    intro k hk
    rcases List.mem_cons.1 hk with rfl | hk
    · exact h.1
    · exact ih h.2 k hk
theorem renB_plain {σ : Nat → Nat} {B : Blk} (hB : DV.nums.go (fun _ => false) B.cells = true) : renB σ B = B := by
  obtain ⟨t, lv, c⟩ := B
  simp only [renB]
  rw [← DV.ren_go, ren_id_go _ _ hB]
theorem allSome_map {α β : Type} (l : List α) (f : α → Option β) (g : α → β) (h : ∀ a ∈ l, f a = some (g a)) : allSome (l.map f) = some (l.map g) := by
  induction l with
  | nil => rfl
  | cons a r ih =>
    rw [List.map_cons, h a (by simp), List.map_cons]
    simp only [allSome]
    rw [ih fun b hb => h b (by simp [hb])]
    rfl
theorem lentTo_plain {hp : Heap} {sel : List Nat} (h : plainL hp sel) : lentTo hp sel = some (sel.map fun k => hp.getD k default) := by
  refine allSome_map sel _ _ fun k hk => ?_
  obtain ⟨h1, h2⟩ := plainL_get h k hk
  rw [List.getD_eq_getElem?_getD, List.getElem?_eq_getElem h1] at h2 ⊢
  simp only [Option.map_some, Option.getD_some] at h2 ⊢
  rw [renB_plain h2]
theorem lentOk_plain {hp : Heap} {sel : List Nat} (h : plainL hp sel) : lentOk hp sel = true := by
  unfold lentOk
  rw [List.all_eq_true]
  intro k hk
  obtain ⟨h1, h2⟩ := plainL_get h k hk
  rw [List.getD_eq_getElem?_getD, List.getElem?_eq_getElem h1] at h2
  rw [List.getElem?_eq_getElem h1]
  simp only [Option.getD_some] at h2 ⊢
  rw [nums_mono_go _ _ h2]; simp
theorem vc_newP {P : Program} {g : FuncId} {args args0 : List DV} {hp h0 : Heap} {K : DV → Heap → Prop} {kp : Nat → Bool} {sz n : Nat} {T : TypeId} {cs : List DV} (sel give : List Nat) (c : VCalls P g args0 h0 (NewSl kp h0 sz n T cs)) (hh0 : h0 = sel.map fun k => hp.getD k default) (hpl : plainL hp sel) (hnd : sel.Nodup) (hgv : (sel.filter fun k => !kp (sel.idxOf k)) = give)
    (ha0 : args0 = args.map (DV.ren fun j => sel.idxOf j)) (ha : DV.nums.go sel.contains args = true) (hc : DV.nums.go (fun _ => false) cs = true)
    (h : K (.own hp.length sz 0 n) (kills hp give ++ [⟨T, true, cs⟩])) : VCalls P g args hp K := by
  subst hgv
  refine vc_new sel c hnd (by rw [lentTo_plain hpl, hh0]) (lentOk_plain hpl) ha0 ha (fun i B _ hB => ?_) hc h
  rw [hh0, List.getElem?_map] at hB
  obtain ⟨k, h1, h2⟩ := map_eq hB
  subst h2
  exact (plainL_get hpl k (List.mem_of_getElem? h1)).2
end Go.V

/-
  V, part 35: a call that only reads: what the caller holds of its own is lent for the call's time, addresses and what closures hold too.
-/
set_option linter.unusedVariables false
namespace Go.V

/-- One argument, lent: a slice as one that nobody writes, an address as one of cells that nobody writes. -/
def frzB (hp : Heap) : DV → Option DV
  | .ptr k off => match blkCells hp k with
    | some cs => (allSome ((cs.drop off).map (frzP 0 hp 4))).map .ip
    | none => none
  | .ip cs => some (.ip cs)
  | d => frz1 0 hp d
def frzA (hp : Heap) : DV → Option DV
  | .fn f a b => match allSome (a.map (frzB hp)), allSome (b.map (frzB hp)) with
    | some a', some b' => some (.fn f a' b')
    | _, _ => none
  | .agg cs => (allSome (cs.map (frzB hp))).map .agg
  | d => frzB hp d

theorem frzB_sound {w : World} {β βc : Map} {hp : Heap} (hh : HeapRel w β hp) (hl : Leaves w β hp 0 (img βc [])) {d d' : DV} {v : Value} (hd : RelD w β hp d v) (h : frzB hp d = some d') : RelD w βc [] d' v := by
  unfold frzB at h
  split at h
  · rename_i k off
    split at h
    · rename_i cs hb
      obtain ⟨ps, h1, h2⟩ := map_eq h
      subst h2
      obtain ⟨g1, g2⟩ := allSome_get h1
      cases hd with
      | ptr _ _ b hk hm =>
        obtain ⟨B, C, q1, q2, q3, q4, q5, q6⟩ := blk_cell hh hb hm
        have each : ∀ (j : Nat) (d : PV), ps[j]? = some d → off + j < C.v.size ∧ RelP w (img βc []) d (C.v.getD (off + j) undef) := fun j d hj => by
          have h3 := g2 j d hj
          rw [List.getElem?_map, List.getElem?_drop] at h3
          obtain ⟨x, x1, x2⟩ := map_eq h3
          have hlt := (List.getElem?_eq_some_iff.1 x1).1
          exact ⟨by omega, frzP_sound hh hl 4 (q6 _ _ x1).2 x2⟩
        refine .ip ps ⟨b, off, none⟩ (fun j => C.v.getD (off + j) undef) rfl (fun j d hj => ⟨?_, ?_, ?_⟩) (fun j d hj => (each j d hj).2)
        · exact (Array.getElem?_eq_some_iff.1 q4).1
        · exact hl.off k B b (Nat.zero_le _) q1 q2 hm
        · exact cell_of_blk q4 (each j d hj).1
    · cases h
  · rename_i cs
    simp at h
    subst h
    cases hd with
    | ip _ ad val h1 h2 h3 =>
      exact .ip cs ad val h1 (fun j d hd => ⟨(h2 j d hd).1, fun x => (h2 j d hd).2.1 (hl.sub _ x), (h2 j d hd).2.2⟩) (fun j d hd => (h3 j d hd).mono (Nat.le_refl _) (fun _ _ _ => rfl) (fun b _ => hl.sub b))
  · exact frz1_sound (β' := βc) (hp' := []) hh hl (fun k hk => absurd hk (Nat.not_lt_zero _)) (Nat.zero_le _) hd h

theorem frzBL_sound {w : World} {β βc : Map} {hp : Heap} (hh : HeapRel w β hp) (hl : Leaves w β hp 0 (img βc [])) {ds ds' : List DV} {n : Nat} {f : Nat → Value} (hn : ds.length = n) (hd : ∀ i d, ds[i]? = some d → RelD w β hp d (f i)) (h : allSome (ds.map (frzB hp)) = some ds') : ds'.length = n ∧ ∀ i d, ds'[i]? = some d → RelD w βc [] d (f i) := by
  obtain ⟨h1, h2⟩ := allSome_get h
  refine ⟨by rw [h1, List.length_map, hn], fun i d hi => ?_⟩
  have h3 := h2 i d hi
  rw [List.getElem?_map] at h3
  obtain ⟨x, x1, x2⟩ := map_eq h3
  exact frzB_sound hh hl (hd i x x1) x2

theorem frzA_sound {w : World} {β βc : Map} {hp : Heap} (hh : HeapRel w β hp) (hl : Leaves w β hp 0 (img βc [])) {d d' : DV} {v : Value} (hd : RelD w β hp d v) (h : frzA hp d = some d') : RelD w βc [] d' v := by
  unfold frzA at h
  split at h
  · rename_i f a b
    split at h
    · rename_i a' b' ha hb
      simp at h
      subst h
      cases hd with
      | fn _ _ _ vs us h1 h2 h3 h4 =>
        obtain ⟨p1, p2⟩ := frzBL_sound hh hl h1 h3 ha
        obtain ⟨q1, q2⟩ := frzBL_sound hh hl h2 h4 hb
        exact .fn f a' b' vs us p1 q1 p2 q2
    · cases h
  · rename_i cs
    obtain ⟨ds, h1, h2⟩ := map_eq h
    subst h2
    cases hd with
    | agg _ vs g1 g2 =>
      obtain ⟨p1, p2⟩ := frzBL_sound hh hl g1 g2 h1
      exact .agg _ _ p1 p2
  · exact frzB_sound hh hl hd h

/-- The caller lends what it holds for the call's time. -/
theorem VCalls.lendA {P : Program} {g : FuncId} {args args0 : List DV} {hp : Heap} {R : DV → Prop} (ha : allSome (args.map (frzA hp)) = some args0) (c : VCalls P g args0 [] fun r h' => h' = [] ∧ r.flat = true ∧ R r) :
    VCalls P g args hp fun r h' => h' = hp ∧ R r := by
  refine ⟨fun w β vs hh hr => ?_⟩
  let βc : Map := ⟨fun _ => none, β.X⟩
  have himc : ∀ b, img βc [] b → β.X b := fun b hb => by
    rcases hb with hb | ⟨i, D, h1, _⟩
    · exact hb
    · simp at h1
  have hlv : Leaves w β hp 0 (img βc []) := ⟨fun b hb => .inl (himc b hb), fun k B b _ h1 h2 h3 hb => hh.avoid k B b h1 h2 h3 (himc b hb)⟩
  have hhc : HeapRel w βc [] := ⟨by simp, by simp, by simp, by simp, hh.bound⟩
  obtain ⟨a1, a2⟩ := allSome_get ha
  have hargs : RelL w βc [] args0 vs := by
    refine ⟨by rw [a1]; simpa using hr.1, fun i d hd => ?_⟩
    have h3 := a2 i d hd
    rw [List.getElem?_map] at h3
    obtain ⟨x, x1, x2⟩ := map_eq h3
    exact frzA_sound hh hlv (hr.2 i x x1) x2
  refine (c.run w βc vs hhc hargs).mono ?_
  rintro e w' ⟨v, r, h', β', rfl, ev, hh', hrel, rfl, hf, hR⟩
  have heap_same : ∀ b, b < w.heap.size → w'.heap[b]? = w.heap[b]? := fun b hb => ev.same b hb (by rintro ⟨k, B, h1, _⟩; simp at h1)
  have e : Evo w β hp w' β hp := ⟨ev.os, ev.tape, ev.output, ev.size, Nat.le_refl _, fun _ _ => rfl, fun b hb _ => heap_same b hb, fun b C T m h => ⟨C, m, by rw [heap_same b (Array.getElem?_eq_some_iff.1 h).1]; exact h, rfl⟩, fun _ _ h => h, rfl⟩
  refine ⟨v, r, hp, β, rfl, e, ?_, hrel.flat hf, rfl, hR⟩
  refine ⟨fun k B b h1 h2 h3 => ?_, hh.none, hh.inj, hh.avoid, fun b hb => Nat.lt_of_lt_of_le (hh.bound b hb) ev.size⟩
  obtain ⟨C, g1, g2, g3⟩ := hh.blk k B b h1 h2 h3
  exact ⟨C, by rw [heap_same b (Array.getElem?_eq_some_iff.1 g1).1]; exact g1, g2, fun i d hd => ⟨(g3 i d hd).1, (g3 i d hd).2.mono e⟩⟩
theorem vc_lendA {P : Program} {g : FuncId} {args args0 : List DV} {hp : Heap} {K : DV → Heap → Prop} {d : DV} (c : VCalls P g args0 [] (Ret d)) (ha : allSome (args.map (frzA hp)) = some args0) (hf : d.flat = true) (h : K d hp) : VCalls P g args hp K :=
  (VCalls.lendA (R := fun r => r = d) ha (c.mono fun r h' e => ⟨e.1, e.2.2 ▸ hf, e.2.2⟩)).mono fun r h' e => by obtain ⟨rfl, rfl⟩ := e; exact h
theorem frzP_pvL (hp : Heap) (f : Nat) (c : List PV) : allSome ((c.map DV.pv).map (frzP 0 hp f)) = some c := pvs_frzP 0 hp f c
theorem frzB_ptr {hp : Heap} {k : Nat} {T : TypeId} {c : List PV} (hk : hp[k]? = some ⟨T, true, c.map .pv⟩) : frzB hp (.ptr k 0) = some (.ip c) := by
  have hb : blkCells hp k = some (c.map .pv) := by simp [blkCells, hk]
  simp only [frzB, hb, List.drop_zero, frzP_pvL]; rfl
theorem frzA_own {α : Type} (e : Enc α) {hp : Heap} {k : Nat} {T : TypeId} (l : List α) (hk : hp[k]? = some ⟨T, true, cells e l⟩) : frzA hp (.own k e.sz 0 l.length) = some (.pv (.sl (fz e l))) := own_frz e (Nat.not_lt_zero k) l hk
theorem frzA_fn1 {hp : Heap} {g : FuncId} {k : Nat} {T : TypeId} {c : List PV} (hk : hp[k]? = some ⟨T, true, c.map .pv⟩) : frzA hp (.fn (.func g) [] [.ptr k 0]) = some (.fn (.func g) [] [.ip c]) := by
  simp only [frzA, List.map_nil, List.map_cons, allSome, frzB_ptr hk]
  rfl
theorem allSome2 {α : Type} {x y : Option α} {a b : α} (hx : x = some a) (hy : y = some b) : allSome [x, y] = some [a, b] := by subst hx hy; rfl

/-! ### Lists written in place -/
theorem mk_cells {α : Type} (e : Enc α) (z : α) : ∀ n, mk ((e.enc z).map DV.pv) n = cells e (List.replicate n z)
  | 0 => rfl
  | n + 1 => by rw [mk, mk_cells e z n, List.replicate_succ, cells_cons]
theorem splice_cells {α : Type} (e : Enc α) (l m : List α) (i : Nat) : splice (cells e l) (i * e.sz) (cells e m) = cells e (l.take i ++ m ++ l.drop (i + m.length)) := by
  unfold splice
  rw [cells_take, cells_len, ← Nat.add_mul, cells_drop, cells_app, cells_app]
/-! ### Lending, to be reckoned -/
def frzF (f : Fn) (a b : Option (List DV)) : Option DV := match a, b with | some a', some b' => some (.fn f a' b') | _, _ => none
def frzQ (x : Option (List DV)) (hp : Heap) (off : Nat) : Option DV := match x with | some cs => (allSome ((cs.drop off).map (frzP 0 hp 4))).map .ip | none => none
theorem frzA_agg {hp : Heap} {cs : List DV} : frzA hp (.agg cs) = (allSome (cs.map (frzB hp))).map .agg := rfl
theorem frzA_ownE {hp : Heap} {k sz off len : Nat} : frzA hp (.own k sz off len) = frz1 0 hp (.own k sz off len) := rfl
theorem frzB_ownE {hp : Heap} {k sz off len : Nat} : frzB hp (.own k sz off len) = frz1 0 hp (.own k sz off len) := rfl
theorem frzA_pv {hp : Heap} {p : PV} : frzA hp (.pv p) = some (.pv p) := rfl
theorem frzB_pv {hp : Heap} {p : PV} : frzB hp (.pv p) = some (.pv p) := rfl
theorem frzA_fn {hp : Heap} {f : Fn} {a b : List DV} : frzA hp (.fn f a b) = frzF f (allSome (a.map (frzB hp))) (allSome (b.map (frzB hp))) := rfl
theorem frzF_some {f : Fn} {a b : List DV} : frzF f (some a) (some b) = some (.fn f a b) := rfl
theorem frzB_ptrE {hp : Heap} {k off : Nat} : frzB hp (.ptr k off) = frzQ (blkCells hp k) hp off := rfl
theorem frzQ_some {cs : List DV} {hp : Heap} {off : Nat} : frzQ (some cs) hp off = (allSome ((cs.drop off).map (frzP 0 hp 4))).map .ip := rfl
end Go.V

/-
  V, part 36: a nil slice as a slice of the call's own, without elements.
-/
namespace Go.V

theorem sim_nilOwn {O : Org} {β : Map} {S : St} {a : Act} {w : World} (h : Sim O β S a w) (t : Nat) (T : TypeId) (sz : Nat) (ht : look S.tm t = .pv (.slc [])) :
    ∃ β', Sim O β' ⟨S.nt, S.base, (t, .own S.hp.length sz 0 0) :: S.tm, S.hp ++ [⟨T, true, []⟩]⟩ a w := by
  have e : Evo w β S.hp w (ext β S.hp.length none) (S.hp ++ [(⟨T, true, []⟩ : Blk)]) := by
    refine ⟨rfl, rfl, rfl, Nat.le_refl _, by simp, fun j hj => ext_lt hj, fun _ _ _ => rfl, fun _ C _ m h => ⟨C, m, h, rfl⟩, fun b _ hb => ?_, rfl⟩
    obtain ⟨j, D, g1, g2, g3⟩ := hb
    rcases Nat.lt_trichotomy j S.hp.length with hlt | heq | hgt
    · rw [List.getElem?_append_left hlt] at g1; rw [ext_lt hlt] at g3; exact ⟨j, D, g1, g2, g3⟩
    · subst heq; simp [ext] at g3
    · rw [List.getElem?_append_right (by omega), List.getElem?_eq_none (by simp; omega)] at g1; simp at g1
  refine ⟨_, h.defers, h.size, fun u => ?_, push_heap h.heap rfl e (by simp) (fun _ => rfl) (fun _ _ => rfl), h.evo.trans e, h.base⟩
  simp only [look]
  split
  · rename_i hu
    have := h.tm t
    rw [ht] at this
    rw [← hu]
    generalize a.tmps.getD t undef = v at this
    cases this with
    | pv _ _ hp0 => cases hp0 with
      | slc _ ad sz2 val h1 h2 h3 h4 h5 => exact .own0 _ _ ad (by simp) (by simp [ext]) h3
  · exact (h.tm u).mono e
theorem VWp.nilOwn {P : Program} {c : Code} {Q : Exit → St → Prop} {S : St} (t : Nat) (T : TypeId) (sz : Nat) (ht : look S.tm t = .pv (.slc [])) (h : VWp P c Q ⟨S.nt, S.base, (t, .own S.hp.length sz 0 0) :: S.tm, S.hp ++ [⟨T, true, []⟩]⟩) : VWp P c Q S := fun O β a w hs =>
  let ⟨_, h'⟩ := sim_nilOwn hs t T sz ht
  h O _ a w h'
theorem VLoop.nilOwn {P : Program} {c : Code} {Q : Exit → St → Prop} {S : St} (t : Nat) (T : TypeId) (sz : Nat) (ht : look S.tm t = .pv (.slc [])) (h : VLoop P c Q ⟨S.nt, S.base, (t, .own S.hp.length sz 0 0) :: S.tm, S.hp ++ [⟨T, true, []⟩]⟩) : VLoop P c Q S := VWp.nilOwn t T sz ht h
end Go.V

namespace Go.V
open Go
/-- Slices whose capacity is known may be handed where it is not asked for. -/
theorem VCalls.wkA {P : Program} {g : FuncId} {args : List DV} {hp : Heap} {R : DV → Heap → Prop} (c : VCalls P g (DV.wk.go args) hp R) : VCalls P g args hp R :=
  ⟨fun w β vs hh ha => c.run w β vs hh ⟨by rw [wk_go_map, List.length_map]; exact ha.1, fun i d hd => by
    rw [wk_go_map, List.getElem?_map] at hd
    obtain ⟨x, h1, h2⟩ := map_eq hd
    subst h2
    exact (ha.2 i x h1).wk⟩⟩
end Go.V

/-
  V, part 38: what lies at the end of a block may be forgotten.
-/
namespace Go.V
open Go

/-- The same blocks, of which some are known less far. -/
structure Cut (h h' : Heap) : Prop where
  len : h'.length = h.length
  at_ : ∀ (k : Nat) (B : Blk), h[k]? = some B → ∃ B', h'[k]? = some B' ∧ B'.ty = B.ty ∧ B'.live = B.live ∧ ∃ t, B.cells = B'.cells ++ t
theorem Cut.back {h h' : Heap} (c : Cut h h') {k : Nat} {B' : Blk} (hk : h'[k]? = some B') : ∃ B, h[k]? = some B ∧ B'.ty = B.ty ∧ B'.live = B.live ∧ ∃ t, B.cells = B'.cells ++ t := by
  have hlt : k < h.length := by rw [← c.len]; exact (List.getElem?_eq_some_iff.1 hk).1
  obtain ⟨B2, g1, g2⟩ := c.at_ k h[k] (List.getElem?_eq_getElem hlt)
  rw [hk] at g1
  cases g1
  exact ⟨h[k], List.getElem?_eq_getElem hlt, g2⟩
theorem Cut.live {h h' : Heap} (c : Cut h h') {β : Map} {b : Nat} : live β h' b ↔ live β h b := by
  constructor
  · rintro ⟨k, B, h1, h2, h3⟩
    obtain ⟨B2, g1, _, g3, _⟩ := c.back h1
    exact ⟨k, B2, g1, g3 ▸ h2, h3⟩
  · rintro ⟨k, B, h1, h2, h3⟩
    obtain ⟨B2, g1, _, g3, _⟩ := c.at_ k B h1
    exact ⟨k, B2, g1, g3.trans h2, h3⟩
theorem Cut.evo {h h' : Heap} (c : Cut h h') (w : World) (β : Map) : Evo w β h w β h' :=
  ⟨rfl, rfl, rfl, Nat.le_refl _, by rw [c.len]; exact Nat.le_refl _, fun _ _ => rfl, fun _ _ _ => rfl, fun _ C _ m e => ⟨C, m, e, rfl⟩, fun _ _ l => c.live.1 l, rfl⟩
theorem Cut.heap {h h' : Heap} (c : Cut h h') {w : World} {β : Map} (hh : HeapRel w β h) : HeapRel w β h' := by
  refine ⟨fun k B b h1 h2 h3 => ?_, fun k B h1 h2 h3 => ?_, fun j k B B' b h1 h2 h3 h4 h5 h6 => ?_, fun k B b h1 h2 h3 => ?_, hh.bound⟩
  · obtain ⟨B2, g1, g2, g3, t, g4⟩ := c.back h1
    obtain ⟨C, e1, e2, e3⟩ := hh.blk k B2 b g1 (g3 ▸ h2) h3
    refine ⟨C, g2 ▸ e1, by rw [g4, List.length_append] at e2; omega, fun i d hd => ?_⟩
    have : B2.cells[i]? = some d := by rw [g4, List.getElem?_append_left (List.getElem?_eq_some_iff.1 hd).1]; exact hd
    exact ⟨(e3 i d this).1, (e3 i d this).2.mono (c.evo w β)⟩
  · obtain ⟨B2, g1, g2, g3, t, g4⟩ := c.back h1
    have := hh.none k B2 g1 (g3 ▸ h2) h3
    rw [g4] at this
    exact (List.append_eq_nil_iff.1 this).1
  · obtain ⟨B2, g1, _, g3, _⟩ := c.back h1
    obtain ⟨B3, i1, _, i3, _⟩ := c.back h2
    exact hh.inj j k B2 B3 b g1 i1 (g3 ▸ h3) (i3 ▸ h4) h5 h6
  · obtain ⟨B2, g1, _, g3, _⟩ := c.back h1
    exact hh.avoid k B2 b g1 (g3 ▸ h2) h3
theorem VCalls.cut {P : Program} {g : FuncId} {args : List DV} {h : Heap} {R R' : DV → Heap → Prop} (c : VCalls P g args h R) (hr : ∀ r h', R r h' → ∃ h'', Cut h' h'' ∧ R' r h'') : VCalls P g args h R' :=
  ⟨fun w β vs hh ha => (c.run w β vs hh ha).mono fun _ w' ⟨v, r, h', β', e1, ev, hh', hd, hR⟩ => by
    obtain ⟨h'', hc, hR'⟩ := hr r h' hR
    exact ⟨v, r, h'', β', e1, ev.trans (hc.evo w' β'), hc.heap hh', hd.mono (hc.evo w' β'), hR'⟩⟩
theorem Cut.refl (h : Heap) : Cut h h := ⟨rfl, fun k B hk => ⟨B, hk, rfl, rfl, [], by simp⟩⟩
theorem Cut.last (h : Heap) (T : TypeId) (b : Bool) (cs t : List DV) : Cut (h ++ [⟨T, b, cs ++ t⟩]) (h ++ [⟨T, b, cs⟩]) := by
  refine ⟨by simp, fun k B hk => ?_⟩
  rcases Nat.lt_trichotomy k h.length with hlt | heq | hgt
  · rw [List.getElem?_append_left hlt] at hk ⊢
    exact ⟨B, hk, rfl, rfl, [], by simp⟩
  · subst heq
    simp only [List.getElem?_concat_length, Option.some.injEq] at hk ⊢
    subst hk
    exact ⟨_, rfl, rfl, rfl, t, rfl⟩
  · rw [List.getElem?_eq_none (by simp; omega)] at hk; cases hk
/-- A new slice whose block goes on behind it. -/
theorem VCalls.newSl_cut {P : Program} {g : FuncId} {args : List DV} {h : Heap} {kp : Nat → Bool} {sz n : Nat} {T : TypeId} {cs t : List DV} (c : VCalls P g args h (NewSl kp h sz n T (cs ++ t))) : VCalls P g args h (NewSl kp h sz n T cs) :=
  c.cut fun r h' e => by
    obtain ⟨rfl, rfl⟩ := e
    exact ⟨_, Cut.last _ T true cs t, rfl, rfl⟩
end Go.V

/-
  V, part 39: blocks that a call was given are its own: they get numbers behind those of the caller, where theirs die.
-/
namespace Go.V
open Go

/-- Dead blocks in place of the caller's, then the blocks 'keep' alone, in that order. -/
structure Gm (keep : List Nat) (S S' : St) : Prop where
  nt : S'.nt = S.nt
  base : S'.base = S.base
  low : ∀ k, k < S.base → ∃ B, S'.hp[k]? = some B ∧ B.live = false
  nodup : keep.Nodup
  len : S'.hp.length = S.base + keep.length
  hp : ∀ (i k : Nat), keep[i]? = some k → ∃ B B', S.hp[k]? = some B ∧ S'.hp[S.base + i]? = some B' ∧ B'.ty = B.ty ∧ B'.live = B.live ∧ B'.cells = B.cells.map (DV.ren fun k => S.base + keep.idxOf k) ∧ (B.live = true → DV.nums.go keep.contains B.cells = true)
  tm : ∀ t, V.look S'.tm t = .any ∨ (V.look S'.tm t = (V.look S.tm t).ren (fun k => S.base + keep.idxOf k) ∧ (V.look S.tm t).nums keep.contains = true)

theorem Sim.gm {O : Org} {β : Map} {S S' : St} {a : Act} {w : World} {keep : List Nat} (h : Sim O β S a w) (g : Gm keep S S') : ∃ β', Sim O β' S' a w := by
  let β' : Map := ⟨fun i => if i < S.base then β.f i else (keep[i - S.base]?).bind β.f, β.X⟩
  have hO : O.hp.length = S.base := h.base
  have back : ∀ {i : Nat} {B' : Blk}, S'.hp[i]? = some B' → B'.live = true → ∃ k B, S.base ≤ i ∧ keep[i - S.base]? = some k ∧ S.hp[k]? = some B ∧ B'.ty = B.ty ∧ B'.live = B.live ∧ B'.cells = B.cells.map (DV.ren fun k => S.base + keep.idxOf k) ∧ (B.live = true → DV.nums.go keep.contains B.cells = true) ∧ β'.f i = β.f k := by
    intro i B' hi hl
    have hge : S.base ≤ i := by
      rcases Nat.lt_or_ge i S.base with hlt | hge
      · obtain ⟨B, h1, h2⟩ := g.low i hlt
        rw [hi] at h1; cases h1; rw [hl] at h2; cases h2
      · exact hge
    have hlt : i - S.base < keep.length := by have := (List.getElem?_eq_some_iff.1 hi).1; rw [g.len] at this; omega
    have hk : keep[i - S.base]? = some keep[i - S.base] := List.getElem?_eq_getElem hlt
    obtain ⟨B, B'', h1, h2, h3, h4, h5, h6⟩ := g.hp _ _ hk
    rw [show S.base + (i - S.base) = i by omega, hi] at h2
    cases h2
    exact ⟨_, B, hge, hk, h1, h3, h4, h5, h6, by simp [β', hk]; omega⟩
  have hsub : ∀ b, live β' S'.hp b → live β S.hp b := by
    rintro b ⟨i, B', h1, h2, h3⟩
    obtain ⟨k, B, _, _, k2, _, k4, _, _, k7⟩ := back h1 h2
    exact ⟨k, B, k2, by rw [← k4]; exact h2, by rw [← k7]; exact h3⟩
  have him : ∀ b, img β' S'.hp b → img β S.hp b := fun b hb => hb.imp id (hsub b)
  have hσ : ∀ k, keep.contains k = true → k < S.hp.length → S.base + keep.idxOf k < S'.hp.length ∧ β'.f (S.base + keep.idxOf k) = β.f k := by
    intro k hk _
    have hm : k ∈ keep := by simpa using hk
    have hlt := List.idxOf_lt_length_of_mem hm
    refine ⟨by rw [g.len]; omega, ?_⟩
    have hnl : ¬ S.base + List.idxOf k keep < S.base := by omega
    simp [β', List.getElem?_eq_getElem hlt, hnl]
  refine ⟨β', h.defers, by rw [g.nt]; exact h.size, fun t => ?_, ?_, ?_, h.base.trans g.base.symm⟩
  · rcases g.tm t with e | ⟨e, hn⟩
    · rw [e]; exact .any _
    · rw [e]; exact RelD.ren hσ him (h.tm t) hn
  · have hh := h.heap
    refine ⟨fun i B' b h1 h2 h3 => ?_, fun i B' h1 h2 h3 => ?_, fun i j B B' b h1 h2 h3 h4 h5 h6 => ?_, fun i B' b h1 h2 h3 => ?_, hh.bound⟩
    · obtain ⟨k, B, _, k1, k2, k3, k4, k5, k6, k7⟩ := back h1 h2
      rw [k7] at h3
      have hl : B.live = true := by rw [← k4]; exact h2
      obtain ⟨C, c1, c2, c3⟩ := hh.blk k B b k2 hl h3
      refine ⟨C, by rw [k3]; exact c1, by rw [k5, List.length_map]; exact c2, fun j d hd => ?_⟩
      rw [k5, List.getElem?_map] at hd
      cases hx : B.cells[j]? with
      | none => simp [hx] at hd
      | some x =>
        simp [hx] at hd
        subst hd
        obtain ⟨o1, o2⟩ := c3 j x hx
        refine ⟨?_, RelD.ren hσ him o2 (DV.nums_go (k6 hl) j x hx)⟩
        cases x <;> first | rfl | exact o1
    · obtain ⟨k, B, _, k1, k2, k3, k4, k5, k6, k7⟩ := back h1 h2
      rw [k7] at h3
      rw [k5, hh.none k B k2 (by rw [← k4]; exact h2) h3]; rfl
    · obtain ⟨k, D, g1, k1, k2, k3, k4, k5, k6, k7⟩ := back h1 h3
      obtain ⟨k', D', g2, l1, l2, l3, l4, l5, l6, l7⟩ := back h2 h4
      rw [k7] at h5
      rw [l7] at h6
      have := hh.inj k k' D D' b k2 l2 (by rw [← k4]; exact h3) (by rw [← l4]; exact h4) h5 h6
      subst this
      obtain ⟨hi, e1⟩ := List.getElem?_eq_some_iff.1 k1
      obtain ⟨hj, e2⟩ := List.getElem?_eq_some_iff.1 l1
      have := (List.getElem_inj g.nodup).1 (e1.trans e2.symm)
      omega
    · obtain ⟨k, B, _, k1, k2, k3, k4, k5, k6, k7⟩ := back h1 h2
      rw [k7] at h3
      exact hh.avoid k B b k2 (by rw [← k4]; exact h2) h3
  · have ev := h.evo
    have hlow : ∀ k, k < O.hp.length → β'.f k = β.f k := fun k hk => by simp [β', show k < S.base by omega]
    exact ⟨ev.os, ev.tape, ev.output, ev.size, by rw [g.len]; omega, fun k hk => (hlow k hk).trans (ev.beta k hk), ev.same, ev.shape, fun b hb hl => ev.im b hb (hsub b hl), ev.X⟩

def tmGm (n : Nat) (keep : List Nat) (tm : List (Nat × DV)) : List (Nat × DV) → Prop
  | [] => True
  | (t, d) :: r => (d = (V.look tm t).ren (fun k => n + keep.idxOf k) ∧ (V.look tm t).nums keep.contains = true) ∧ tmGm n keep tm r
theorem tmGm_look {n : Nat} {keep : List Nat} {tm : List (Nat × DV)} : ∀ {tm' : List (Nat × DV)}, tmGm n keep tm tm' → ∀ t, V.look tm' t = .any ∨ (V.look tm' t = (V.look tm t).ren (fun k => n + keep.idxOf k) ∧ (V.look tm t).nums keep.contains = true)
  | [], _, t => .inl rfl
  | (a, d) :: r, h, t => by
    simp only [V.look]
    split
    · rename_i e; subst e; exact .inr h.1
    · exact tmGm_look h.2 t
def cellsGm (n : Nat) (keep : List Nat) (cs cs' : List DV) : Prop := (DV.nums.go (fun _ => false) cs = true ∧ cs' = cs) ∨ (cs' = cs.map (DV.ren fun k => n + keep.idxOf k) ∧ DV.nums.go keep.contains cs = true)
def hpGm (n : Nat) (keep : List Nat) (hp : Heap) : List Nat → Heap → Prop
  | [], [] => True
  | k :: r, B' :: r' => (∃ B, hp[k]? = some B ∧ B'.ty = B.ty ∧ B'.live = B.live ∧ cellsGm n keep B.cells B'.cells) ∧ hpGm n keep hp r r'
  | _, _ => False
theorem hpGm_get {n : Nat} {keep : List Nat} {hp : Heap} : ∀ {l : List Nat} {hp' : Heap}, hpGm n keep hp l hp' → hp'.length = l.length ∧ ∀ (i k : Nat), l[i]? = some k → ∃ B B', hp[k]? = some B ∧ hp'[i]? = some B' ∧ B'.ty = B.ty ∧ B'.live = B.live ∧ B'.cells = B.cells.map (DV.ren fun k => n + keep.idxOf k) ∧ (B.live = true → DV.nums.go keep.contains B.cells = true)
  | [], [], _ => ⟨rfl, fun i k h => by simp at h⟩
  | [], _ :: _, h => h.elim
  | _ :: _, [], h => h.elim
  | k0 :: r, B' :: r', h => by
    obtain ⟨⟨B, h1, h2, h3, h4⟩, h5⟩ := h
    obtain ⟨g1, g2⟩ := hpGm_get h5
    refine ⟨by simp [g1], fun i k hk => ?_⟩
    cases i with
    | zero =>
      simp at hk
      subst hk
      refine ⟨B, B', h1, rfl, h2, h3, ?_⟩
      rcases h4 with ⟨n, e⟩ | ⟨e, n⟩
      · exact ⟨by rw [e, ← DV.ren_go, ren_id_go _ _ n], fun _ => nums_mono_go _ _ n⟩
      · exact ⟨e, fun _ => n⟩
    | succ i => exact g2 i k (by simpa using hk)

/-- Dead blocks. -/
def deadL : List TypeId → Heap := List.map fun T => ⟨T, false, []⟩
/-- A loop before which what the call was given becomes its own. -/
theorem VWp.move {P : Program} {c : Code} {Q : Exit → St → Prop} {S : St} (keep : List Nat) (Ts : List TypeId) (tm' : List (Nat × DV)) (hp' : Heap) (hb : Ts.length = S.base) (hn : keep.Nodup) (hh : hpGm S.base keep S.hp keep hp') (ht : tmGm S.base keep S.tm tm') (h : VWp P c Q ⟨S.nt, S.base, tm', deadL Ts ++ hp'⟩) : VWp P c Q S := fun O β a w hs => by
  obtain ⟨g1, g2⟩ := hpGm_get hh
  have hl : (deadL Ts).length = S.base := by simp [deadL, hb]
  obtain ⟨β', h'⟩ := hs.gm (keep := keep) (S' := ⟨S.nt, S.base, tm', deadL Ts ++ hp'⟩) ⟨rfl, rfl, fun k hk => by
    have hlt : k < (deadL Ts).length := by omega
    refine ⟨(deadL Ts)[k], by show (deadL Ts ++ hp')[k]? = _; rw [List.getElem?_append_left hlt, List.getElem?_eq_getElem hlt], by simp [deadL]⟩, hn, by show (deadL Ts ++ hp').length = _; rw [List.length_append, hl, g1], fun i k hk => by
    obtain ⟨B, B', e1, e2, e3⟩ := g2 i k hk
    exact ⟨B, B', e1, by show (deadL Ts ++ hp')[S.base + i]? = _; rw [List.getElem?_append_right (by omega), hl, show S.base + i - S.base = i by omega]; exact e2, e3⟩, tmGm_look ht⟩
  exact h O β' a w h'
theorem VLoop.move {P : Program} {c : Code} {Q : Exit → St → Prop} {S : St} (keep : List Nat) (Ts : List TypeId) (tm' : List (Nat × DV)) (hp' : Heap) (hb : Ts.length = S.base) (hn : keep.Nodup) (hh : hpGm S.base keep S.hp keep hp') (ht : tmGm S.base keep S.tm tm') (h : VLoop P c Q ⟨S.nt, S.base, tm', deadL Ts ++ hp'⟩) : VLoop P c Q S := VWp.move keep Ts tm' hp' hb hn hh ht h
end Go.V

/-
  V, part 40: between two rounds of a loop the own slices of a call may be read out, and their blocks left behind.
-/
namespace Go.V
open Go

/-- The slots that are still looked at, read out. -/
def tmFz (n : Nat) (hp : Heap) (tm : List (Nat × DV)) : List (Nat × DV) → Prop
  | [] => True
  | (t, d) :: r => frz n hp (V.look tm t) = some d ∧ tmFz n hp tm r
theorem tmFz_look {n : Nat} {hp : Heap} {tm : List (Nat × DV)} : ∀ {tm' : List (Nat × DV)}, tmFz n hp tm tm' → ∀ t, V.look tm' t = .any ∨ frz n hp (V.look tm t) = some (V.look tm' t)
  | [], _, t => .inl rfl
  | (a, d) :: r, h, t => by
    simp only [V.look]
    split
    · rename_i e; subst e; exact .inr h.1
    · exact tmFz_look h.2 t
structure Fz (S S' : St) : Prop where
  nt : S'.nt = S.nt
  base : S'.base = S.base
  hp : frzHeap S.base S.hp = some S'.hp
  tm : tmFz S.base S.hp S.tm S'.tm
theorem Sim.fz {O : Org} {β : Map} {S S' : St} {a : Act} {w : World} (h : Sim O β S a w) (g : Fz S S') : Sim O β S' a w := by
  have hn : S.base ≤ S.hp.length := by rw [← h.base]; exact h.evo.len
  have one : ∀ {d : DV} {v : Value} {d' : DV}, RelD w β S.hp d v → frz S.base S.hp d = some d' → RelD w β S'.hp d' v ∧ HeapRel w β S'.hp ∧ S'.hp.length = S.base ∧ ∀ b, live β S'.hp b → live β S.hp b := by
    intro d v d' hd hf
    obtain ⟨e, hp', ⟨r1, r2⟩, k2, k3, k4, k5⟩ := vend_sound h.heap hn hd (R := fun e hp' => e = d' ∧ hp' = S'.hp) (by unfold VEnd; rw [hf, g.hp]; exact ⟨rfl, rfl⟩)
    subst r1 r2
    exact ⟨k2, k3, k4, k5⟩
  obtain ⟨_, k3, k4, k5⟩ := one (d := .any) (v := undef) (d' := .any) (.any _) rfl
  refine ⟨h.defers, by rw [g.nt]; exact h.size, fun t => ?_, k3, ?_, h.base.trans g.base.symm⟩
  · rcases tmFz_look g.tm t with e | e
    · rw [e]; exact .any _
    · exact (one (h.tm t) e).1
  · have ev := h.evo
    exact ⟨ev.os, ev.tape, ev.output, ev.size, by rw [k4, ← h.base]; exact Nat.le_refl _, ev.beta, ev.same, ev.shape, fun b hb hl => ev.im b hb (k5 b hl), ev.X⟩
theorem VWp.fz {P : Program} {c : Code} {Q : Exit → St → Prop} {S : St} (S' : St) (g : Fz S S') (h : VWp P c Q S') : VWp P c Q S := fun O β a w hs => h O β a w (hs.fz g)
theorem VLoop.fz {P : Program} {c : Code} {Q : Exit → St → Prop} {S : St} (S' : St) (g : Fz S S') (h : VLoop P c Q S') : VLoop P c Q S := VWp.fz S' g h
end Go.V

/-
  V, part 41: blocks given away for good with a call: the callee may keep what they hold in its answer.
-/
namespace Go.V
open Go

/-- All blocks of the caller are read out, and left behind. -/
theorem VCalls.giveA {P : Program} {g : FuncId} {args args0 : List DV} {hp : Heap} {R : DV → Prop} (ha : allSome (args.map (frzA hp)) = some args0) (c : VCalls P g args0 [] fun r h' => h' = [] ∧ r.nums (fun _ => false) = true ∧ R r) :
    VCalls P g args hp fun r h' => h' = hp.map (fun B => ⟨B.ty, false, []⟩) ∧ R r := by
  refine ⟨fun w β vs hh hr => ?_⟩
  let βc : Map := ⟨fun _ => none, β.X⟩
  have himc : ∀ b, img βc [] b → β.X b := fun b hb => by
    rcases hb with hb | ⟨i, D, h1, _⟩
    · exact hb
    · simp at h1
  have hlv : Leaves w β hp 0 (img βc []) := ⟨fun b hb => .inl (himc b hb), fun k B b _ h1 h2 h3 hb => hh.avoid k B b h1 h2 h3 (himc b hb)⟩
  have hhc : HeapRel w βc [] := ⟨by simp, by simp, by simp, by simp, hh.bound⟩
  obtain ⟨a1, a2⟩ := allSome_get ha
  have hargs : RelL w βc [] args0 vs := by
    refine ⟨by rw [a1]; simpa using hr.1, fun i d hd => ?_⟩
    have h3 := a2 i d hd
    rw [List.getElem?_map] at h3
    obtain ⟨x, x1, x2⟩ := map_eq h3
    exact frzA_sound hh hlv (hr.2 i x x1) x2
  refine (c.run w βc vs hhc hargs).mono ?_
  rintro e w' ⟨v, r, h', β', rfl, ev, hh', hrel, rfl, hf, hR⟩
  have heap_same : ∀ b, b < w.heap.size → w'.heap[b]? = w.heap[b]? := fun b hb => ev.same b hb (by rintro ⟨k, B, h1, _⟩; simp at h1)
  have dead : ∀ (k : Nat) (B : Blk), (hp.map (fun B => (⟨B.ty, false, []⟩ : Blk)))[k]? = some B → B.live = false := fun k B hk => by
    rw [List.getElem?_map] at hk
    obtain ⟨x, _, x2⟩ := map_eq hk
    subst x2; rfl
  have nolive : ∀ b, ¬ live β (hp.map (fun B => (⟨B.ty, false, []⟩ : Blk))) b := by
    rintro b ⟨k, B, h1, h2, _⟩
    rw [dead k B h1] at h2; cases h2
  have e : Evo w β hp w' β (hp.map (fun B => ⟨B.ty, false, []⟩)) := ⟨ev.os, ev.tape, ev.output, ev.size, by simp, fun _ _ => rfl, fun b hb _ => heap_same b hb, fun b C T m h => ⟨C, m, by rw [heap_same b (Array.getElem?_eq_some_iff.1 h).1]; exact h, rfl⟩, fun b _ h => absurd h (nolive b), rfl⟩
  refine ⟨v, r, _, β, rfl, e, ?_, hrel.closed hf ?_, rfl, hR⟩
  · refine ⟨fun k B b h1 h2 h3 => ?_, fun k B h1 h2 h3 => ?_, fun i j B B' b h1 h2 h3 => ?_, fun k B b h1 h2 h3 => ?_, fun b hb => Nat.lt_of_lt_of_le (hh.bound b hb) ev.size⟩
    · rw [dead k B h1] at h2; cases h2
    · rw [dead k B h1] at h2; cases h2
    · rw [dead i B h1] at h3; cases h3
    · rw [dead k B h1] at h2; cases h2
  · rintro b (hb | hb)
    · exact .inl (by rw [ev.X]; exact hb)
    · exact absurd hb (nolive b)

theorem behind_kills {hp : Heap} {sel : List Nat} (hlt : ∀ k ∈ sel, k < hp.length) : behind hp sel ((sel.map fun k => hp.getD k default).map (fun B => ⟨B.ty, false, []⟩)) = kills hp sel := by
  unfold behind
  rw [List.drop_of_length_le (by simp), List.map_nil, List.append_nil]
  apply List.ext_getElem?
  intro k
  rw [kills_at, List.getElem?_map]
  by_cases hk : k < hp.length
  · rw [List.getElem?_range hk, Option.map_some]
    have hget : hp[k]? = some hp[k] := List.getElem?_eq_getElem hk
    by_cases hm : k ∈ sel
    · have hc : sel.contains k = true := by simpa using hm
      have hi := List.idxOf_lt_length_of_mem hm
      rw [if_pos hc, if_pos hm, hget, Option.map_some]
      congr 1
      rw [List.getD_eq_getElem?_getD, List.getElem?_map, List.getElem?_map, List.getElem?_eq_getElem hi]
      simp [renB, hget]
    · have hc : sel.contains k = false := by simpa using hm
      rw [if_neg (by rw [hc]; simp), if_neg hm, List.getD_eq_getElem?_getD, hget]; rfl
  · rw [List.getElem?_eq_none (l := List.range hp.length) (by simpa using hk), List.getElem?_eq_none (l := hp) (by omega)]
    simp

/-- A call to which some blocks are given for good. -/
theorem vc_giveA {P : Program} {g : FuncId} {args args0 : List DV} {hp : Heap} {K : DV → Heap → Prop} {d : DV} (sel : List Nat) (args1 : List DV) (h0 : Heap) (c : VCalls P g args0 [] (Ret d)) (hh0 : h0 = sel.map fun k => hp.getD k default) (hpl : plainL hp sel) (hnd : sel.Nodup)
    (ha1 : args1 = args.map (DV.ren fun j => sel.idxOf j)) (ha : DV.nums.go sel.contains args = true) (hf : allSome (args1.map (frzA h0)) = some args0)
    (h : K d (kills hp sel)) : VCalls P g args hp K := by
  subst hh0
  have c1 := VCalls.giveA (R := fun r => r.nums (fun _ => false) = true ∧ r = d) hf (c.mono fun r h' e => ⟨e.1, e.2.1, e.2⟩)
  refine (VCalls.frame sel hnd (lentTo_plain hpl) (lentOk_plain hpl) c1 ha1 ha).mono ?_
  rintro r h2 ⟨r0, h', ⟨rfl, hn, rfl⟩, _, rfl, rfl⟩
  rw [behind_kills fun k hk => (plainL_get hpl k hk).1, ren_id _ _ hn]
  exact h
end Go.V

/-
  V, part 42: a nil slice in a cell as a slice of the call's own.
-/
namespace Go.V
open Go

end Go.V

/-
  V, part 43: a whole state weakened: slices whose capacity is known become slices.
-/
namespace Go.V
open Go

def Blk.wk (B : Blk) : Blk := ⟨B.ty, B.live, DV.wk.go B.cells⟩
def tmwk (tm : List (Nat × DV)) : List (Nat × DV) := tm.map fun p => (p.1, p.2.wk)
def hpwk (hp : Heap) : Heap := hp.map Blk.wk
theorem DV.wk_one (d : DV) (h : d.one = true) : d.wk.one = true := by
  cases d <;> first | rfl | (simp [DV.one] at h)
theorem look_wk : ∀ (tm : List (Nat × DV)) (t : Nat), look (tmwk tm) t = (look tm t).wk
  | [], _ => rfl
  | (u, d) :: r, t => by
    simp only [tmwk, List.map_cons, look]
    split
    · rfl
    · exact look_wk r t
theorem sim_wk {O : Org} {β : Map} {S : St} {a : Act} {w : World} (h : Sim O β S a w) : Sim O β ⟨S.nt, S.base, tmwk S.tm, hpwk S.hp⟩ a w := by
  have at_ : ∀ {i : Nat} {D : Blk}, (hpwk S.hp)[i]? = some D → ∃ D0, S.hp[i]? = some D0 ∧ D = D0.wk := by
    intro i D hi
    rw [hpwk, List.getElem?_map] at hi
    obtain ⟨x, h1, h2⟩ := map_eq hi
    exact ⟨x, h1, h2.symm⟩
  have lv : ∀ b, live β (hpwk S.hp) b → live β S.hp b := by
    rintro b ⟨i, D, g1, g2, g3⟩
    obtain ⟨D0, e1, rfl⟩ := at_ g1
    exact ⟨i, D0, e1, g2, g3⟩
  have e : Evo w β S.hp w β (hpwk S.hp) :=
    ⟨rfl, rfl, rfl, Nat.le_refl _, by simp [hpwk], fun _ _ => rfl, fun _ _ _ => rfl, fun _ C _ m h => ⟨C, m, h, rfl⟩, fun b _ hb => lv b hb, rfl⟩
  have hh := h.heap
  refine ⟨h.defers, h.size, fun t => by show RelD w β (hpwk S.hp) (look (tmwk S.tm) t) _; rw [look_wk]; exact ((h.tm t).mono e).wk, ?_, h.evo.trans e, h.base⟩
  refine ⟨fun i D b g1 g2 g3 => ?_, fun i D g1 g2 g3 => ?_, fun i i2 D D2 b g1 g2 g3 g4 g5 g6 => ?_, fun i D b g1 g2 g3 => ?_, hh.bound⟩
  · obtain ⟨D0, e1, rfl⟩ := at_ g1
    obtain ⟨C, c1, c2, c3⟩ := hh.blk i D0 b e1 g2 g3
    refine ⟨C, c1, by show (DV.wk.go D0.cells).length ≤ _; rw [wk_go_map, List.length_map]; exact c2, fun n x hx => ?_⟩
    have hx2 : (DV.wk.go D0.cells)[n]? = some x := hx
    rw [wk_go_map, List.getElem?_map] at hx2
    obtain ⟨y, h1, h2⟩ := map_eq hx2
    subst h2
    exact ⟨DV.wk_one _ (c3 n y h1).1, ((c3 n y h1).2.mono e).wk⟩
  · obtain ⟨D0, e1, rfl⟩ := at_ g1
    have := hh.none i D0 e1 g2 g3
    show DV.wk.go D0.cells = []
    rw [this]; rfl
  · obtain ⟨D0, e1, rfl⟩ := at_ g1
    obtain ⟨D1, f1, rfl⟩ := at_ g2
    exact hh.inj i i2 D0 D1 b e1 f1 g3 g4 g5 g6
  · obtain ⟨D0, e1, rfl⟩ := at_ g1
    exact hh.avoid i D0 b e1 g2 g3
theorem VWp.wkS {P : Program} {c : Code} {Q : Exit → St → Prop} {S : St} (h : VWp P c Q ⟨S.nt, S.base, tmwk S.tm, hpwk S.hp⟩) : VWp P c Q S := fun O β a w hs => h O β a w (sim_wk hs)
theorem VLoop.wkS {P : Program} {c : Code} {Q : Exit → St → Prop} {S : St} (h : VLoop P c Q ⟨S.nt, S.base, tmwk S.tm, hpwk S.hp⟩) : VLoop P c Q S := VWp.wkS h
end Go.V

/-
  X: of a call's blocks those from a number on are read out and left behind; the others stay.
-/
namespace Go.V
open Go

structure FzN (n : Nat) (S S' : St) : Prop where
  nt : S'.nt = S.nt
  base : S'.base = S.base
  lo : S.base ≤ n
  hi : n ≤ S.hp.length
  hp : frzHeap n S.hp = some S'.hp
  tm : tmFz n S.hp S.tm S'.tm
theorem Sim.fzN {O : Org} {β : Map} {S S' : St} {a : Act} {w : World} {n : Nat} (h : Sim O β S a w) (g : FzN n S S') : Sim O β S' a w := by
  have one : ∀ {d : DV} {v : Value} {d' : DV}, RelD w β S.hp d v → frz n S.hp d = some d' → RelD w β S'.hp d' v ∧ HeapRel w β S'.hp ∧ S'.hp.length = n ∧ ∀ b, live β S'.hp b → live β S.hp b := by
    intro d v d' hd hf
    obtain ⟨e, hp', ⟨r1, r2⟩, k2, k3, k4, k5⟩ := vend_sound h.heap g.hi hd (R := fun e hp' => e = d' ∧ hp' = S'.hp) (by unfold VEnd; rw [hf, g.hp]; exact ⟨rfl, rfl⟩)
    subst r1 r2
    exact ⟨k2, k3, k4, k5⟩
  obtain ⟨_, k3, k4, k5⟩ := one (d := .any) (v := undef) (d' := .any) (.any _) rfl
  refine ⟨h.defers, by rw [g.nt]; exact h.size, fun t => ?_, k3, ?_, h.base.trans g.base.symm⟩
  · rcases tmFz_look g.tm t with e | e
    · rw [e]; exact .any _
    · exact (one (h.tm t) e).1
  · have ev := h.evo
    exact ⟨ev.os, ev.tape, ev.output, ev.size, by rw [k4]; have := h.base; have := g.lo; omega, ev.beta, ev.same, ev.shape, fun b hb hl => ev.im b hb (k5 b hl), ev.X⟩
/-- What is not looked at any more is left behind, and perhaps some is read out. -/
def WeakN (S S' : St) : Prop := Weak S S' ∨ ∃ n S1, Weak S S1 ∧ FzN n S1 S'
theorem Sim.weakN {O : Org} {β : Map} {S S' : St} {a : Act} {w : World} (h : Sim O β S a w) (g : WeakN S S') : ∃ β', Sim O β' S' a w := by
  rcases g with g | ⟨n, S1, g1, g2⟩
  · exact h.weak g
  · obtain ⟨β', h'⟩ := h.weak g1
    exact ⟨β', h'.fzN g2⟩
theorem VWp.weakN {P : Program} {c : Code} {Q : Exit → St → Prop} {S : St} (S' : St) (g : WeakN S S') (h : VWp P c Q S') : VWp P c Q S := fun O β a w hs =>
  let ⟨β', hs'⟩ := hs.weakN g
  h O β' a w hs'
/-- A loop whose rounds may leave blocks behind, or read slices out. -/
theorem vloopN {P : Program} {c : Code} {Q : Exit → St → Prop} {S : St} {ι : Type} (I : ι → St) (μ : ι → Nat) (i₀ : ι) (h₀ : WeakN S (I i₀))
    (round : ∀ i, vcode P c (onNormal Q fun S' => ∃ j, μ j < μ i ∧ WeakN S' (I j)) (I i)) : VLoop P c Q S := by
  intro O β a w hs b k cs
  have key : ∀ n β i a w, μ i = n → Sim O β (I i) a w →
      ∃ e a' w', lift O Q e a' w' ∧ Arrives P (lone (b.at a (.code c :: .inLoop c :: k)) cs w) b k cs e a' w' := by
    intro n
    induction n using Nat.strongRecOn with
    | _ n ih =>
      intro β i a w hn hs
      obtain ⟨e, a₁, w₁, hq, harr⟩ := vcode_sound c _ _ (round i) O β a w hs b (.inLoop c :: k) cs
      obtain ⟨β₁, S₁, hs₁, hq⟩ := hq
      cases e with
      | normal =>
        obtain ⟨j, hlt, hle⟩ := hq
        obtain ⟨β₂, hs₂⟩ := hs₁.weakN hle
        obtain ⟨e₂, a₂, w₂, hq₂, harr₂⟩ := ih (μ j) (hn ▸ hlt) β₂ j a₁ w₁ rfl hs₂
        exact ⟨e₂, a₂, w₂, hq₂, .of_steps (Steps.trans harr (.one step_inLoop)) harr₂⟩
      | exit id => exact ⟨_, a₁, w₁, ⟨β₁, S₁, hs₁, hq⟩, .pass (x := .inLoop c) rfl (fun _ _ => .inl (by simp)) harr⟩
      | goto l => exact ⟨_, a₁, w₁, ⟨β₁, S₁, hs₁, hq⟩, .pass (x := .inLoop c) rfl (fun _ _ => .inl (by simp)) harr⟩
      | ret => exact ⟨_, a₁, w₁, ⟨β₁, S₁, hs₁, hq⟩, .pass (x := .inLoop c) rfl (fun _ _ => .inl (by simp)) harr⟩
      | panic ch => exact ⟨_, a₁, w₁, ⟨β₁, S₁, hs₁, hq⟩, .pass (x := .inLoop c) rfl (fun _ _ => .inl (by simp)) harr⟩
      | outgrown => exact ⟨_, a₁, w₁, ⟨β₁, S₁, hs₁, hq⟩, .pass (x := .inLoop c) rfl (fun _ _ => .inl (by simp)) harr⟩
  obtain ⟨β₀, hs₀⟩ := hs.weakN h₀
  obtain ⟨e, a', w', hq, harr⟩ := key _ β₀ i₀ a w rfl hs₀
  exact ⟨e, a', w', hq, .of_steps (.one step_loop) harr⟩
end Go.V
namespace Go.V
/-- What is asked for fits into a machine. -/
theorem mem_ok {n : Nat} (h : n ≤ 140737488355328) : (n ≤ 140737488355328) = True := eq_true h
end Go.V
namespace Go.V
theorem vslk_fz {α : Type} (e : Enc α) (l : List α) (T : TypeId) (a b : Nat) (h : a ≤ b ∧ b ≤ l.length) : vslk (some (none, T, e.sz)) (fz e l) a b = some (.pv (.sl (fz e ((l.take b).drop a)))) := by
  have h1 : fz e l = [] ∨ (fz e l)[0]?.map List.length = some e.sz := by
    cases l with
    | nil => exact .inl rfl
    | cons x r => exact .inr (fz_has e (x :: r) (by simp))
  simp only [vslk]
  rw [if_pos ⟨h.1, by rw [fz_len]; exact h.2, h1⟩, fz_take, fz_drop]
end Go.V
namespace Go.V
theorem fz_src {α : Type} (e : Enc α) (l : List α) : (fz e l = [] ∨ (fz e l)[0]?.map List.length = some e.sz) = True := by
  refine eq_true ?_
  cases l with
  | nil => exact .inl rfl
  | cons x r => exact .inr (fz_has e (x :: r) (by simp))
theorem toNat_succ (n : Nat) : ((n : Int) + 1).toNat = n + 1 := by omega
end Go.V

/-
  V, part 18: from a law's contract to its row: arguments that are read, and what lies behind the call.
-/
namespace Go.V
open Go.RowKit Go.WideShapes Go.ChangeShapes

def β0 : Map := ⟨fun _ => none, fun _ => False⟩
theorem heapRel0 (w : World) : HeapRel w β0 [] := ⟨by simp, by simp, by simp, by simp, fun _ h => h.elim⟩

/-- What a law's walk says: true; and of what was there nothing has turned. -/
theorem law_walk {P : Program} {g : FuncId} {ds : List DV} {vs : Array Value} {w : World} (hb : ∃ fn, P.funcs[g]? = some fn ∧ fn.body.isNone = false) (c : VCalls P g ds [] (Ret (.bool true))) (h : RelL w β0 [] ds vs) :
    Calls P g vs w fun e w' => e = .returned (.bool true) ∧ Below w.heap.size w w' := by
  rcases c.run w β0 vs (heapRel0 w) h with ⟨_, _, _, _, h4⟩ | ⟨fn, _, _, h1, h2, _⟩
  rotate_left
  · obtain ⟨fn', k1, k2⟩ := hb
    rw [h1] at k1
    cases k1
    rw [h2] at k2
    cases k2
  refine h4.mono fun e w' ⟨v, r, h', β', he, ev, _, hr, _, _, hd⟩ => ?_
  subst hd
  obtain rfl := relD_lit hr
  exact ⟨he, ev.os, ev.tape, ev.output, ev.size, fun k hk => ev.same k hk (by rintro ⟨_, _, h, _⟩; simp at h)⟩

section
variable {H : Type} {enc : TypeId × Value → H} {P : Program}

theorem trodAll_below (hl : laidOutB P = true) {W W' : World} (hb : Below W.heap.size W W') {sp : Nat → Bool} : ∀ {ts : List TypeId} {vs : List Value} {ds : List (DataW H)} {ps : List MemPlace},
    (ts.all fun t => P.readableRec t && decide (t < P.types.size)) = true → DataW.TrodAll enc P W 0 (fun _ => true) true ts vs ds ps → (∀ x ∈ ps, x.block < W.heap.size) → (∀ x ∈ ps, sp x.block = true) → DataW.TrodAll enc P W' 0 sp true ts vs ds ps
  | [], _, _, _, _, h, _, _ => by
    obtain ⟨rfl, rfl, rfl⟩ := trodAll_nil h
    exact rfl
  | t :: ts, _, _, _, hr, h, hlt, hs => by
    obtain ⟨v, vs1, d, ds1, a, b, rfl, rfl, rfl, h1, h2⟩ := trodAll_cons h
    simp only [List.all_cons, Bool.and_eq_true, decide_eq_true_eq] at hr
    exact ⟨a, b, WideElems.Trod_stays hl hr.1.1 hr.1.2 h1 (fun x hx => hb.same (hlt x (List.mem_append_left _ hx))) (fun x hx => hs x (List.mem_append_left _ hx)),
      trodAll_below hl hb (by simpa using hr.2) h2 (fun x hx => hlt x (List.mem_append_right _ hx)) (fun x hx => hs x (List.mem_append_right _ hx)), rfl⟩

/-- The row's last step of a law. -/
theorem law_post {f : Func} {s : ChangeSpec} {apart fresh handsOn again : Bool} {W W' : World} {args : Array Value} {ds gs : List (DataW H)} {before : List MemPlace} {Tb : TypeId}
    (hW : DataW.Whole enc P f.params.toList s.vars apart W args.toList ds gs before) (hl : laidOutB P = true)
    (hts : (f.params.toList.all fun t => P.readableRec t && decide (t < P.types.size)) = true)
    (hvs : s.vars = []) (hres : f.resultTypes = #[Tb]) (hTb : P.underlying Tb = some .bool)
    (hr : (s.fn H ds).results = [.lit (.bool true)]) (ha : (s.fn H ds).args = ds) (hv : (s.fn H ds).vars = [])
    (hb : Below W.heap.size W W') : s.post enc P f apart fresh handsOn again W args (.bool true) W' := by
  have hlt : ∀ p ∈ before, p.block < W.heap.size := fun p hp => hW.lt p hp
  have hold : ∀ p ∈ before, (fun b => decide (b < W.heap.size)) p.block = true := fun p hp => by simpa using hlt p hp
  have hW2 := hW
  obtain ⟨p, q, hA, hV, hpq, hz, hn⟩ := hW2
  rw [hvs] at hV
  obtain ⟨rfl, rfl⟩ := trodVars_none hV
  have hpb : before = p := by simpa using hpq
  subst hpb
  have hargs : ∀ sp : Nat → Bool, (∀ x ∈ before, sp x.block = true) → DataW.TrodAll enc P W' 0 sp true f.params.toList args.toList (s.fn H (ds ++ [])).args before := fun sp hs => by
    rw [List.append_nil, ha]
    exact trodAll_below hl hb hts hA hlt hs
  have hres' : ∀ (b : Nat) (sp : Nat → Bool) (hd : Bool), DataW.TrodAll enc P W' b sp hd f.resultTypes.toList ((Value.bool true).resultList f.resultTypes.size) (s.fn H (ds ++ [])).results [] := fun b sp hd => by
    rw [List.append_nil, hr, hres]
    exact trodAll_mk1 (shut_bool hTb true)
  have hvars : ∀ sp : Nat → Bool, DataW.TrodVars enc P W' sp s.vars (s.fn H (ds ++ [])).vars [] := fun sp => by
    rw [List.append_nil, hv, hvs]; exact rfl
  refine ⟨ds, [], before, [], before, [], hW, hres' _ _ _, hargs _ hold, hvars _, World.keptBut_mono (fun p hp => ⟨hp, ?_⟩) (hb.frame (· ∈ before)), fun _ => ?_⟩
  · simpa using hp
  · refine ⟨ok_one hres rfl (by simp [Value.okWide, hTb, Cell.okWide, Cell.ok]), _, _, ([] ++ before) ++ [], ⟨[] ++ before, [], trodAll_append (hargs _ (fun _ _ => rfl)) (hres' _ _ _), hvars _, rfl, ?_, ?_⟩, ?_⟩
    · intro b off hp
      have hin : MemPlace.cell b off ∈ before := by simpa using hp
      rw [hb.frozen (hlt _ hin)]
      exact hz b off hin
    · intro ha
      simpa using hn ha
    · intro p hp _
      simpa using hp

/-! ### Arguments -/
theorem arg_int {r : Reach} {b0 : Nat} {W : World} {t : TypeId} {k : IntKind} {v : Value} {d : DataW H} {ps : List MemPlace} (ht : P.underlying t = some (.int k)) (hval : Value.okWide P W r b0 t v) (h : DataW.Trod enc P W 0 (fun _ => true) true t v d ps) :
    ∃ n : Int, RelD W β0 [] (.int k n) v ∧ (Lit.int k n).wf = true := by
  obtain ⟨n, rfl, _, _, hw⟩ := open_int ht hval h
  exact ⟨n, .pv _ _ (.lit _ rfl), hw⟩

def su8 (l : List UInt8) : List (List PV) := l.map fun b => [.lit (.int .u8 b.toNat)]

theorem hlt_of {W : World} {a : Addr} {v : Value} (h : W.cell? a = some v) : a.block < W.heap.size := by
  by_cases hb : a.block < W.heap.size
  · exact hb
  · have : W.heap[a.block]? = none := by simp; omega
    simp [World.cell?, this] at h

theorem arg_u8s {r : Reach} {b0 : Nat} {W : World} {t e : TypeId} {v : Value} {d : DataW H} {ps : List MemPlace} (ht : P.underlying t = some (.slice e)) (he : P.underlying e = some (.int .u8)) (hc : P.cellsOf e = 1)
    (hval : Value.okWide P W r b0 t v) (h : DataW.Trod enc P W 0 (fun _ => true) true t v d ps) :
    ∃ l : List UInt8, RelD W β0 [] (.pv (.sl (su8 l))) v ∧ l.length ≤ maxLen := by
  obtain ⟨a0, len, cap, rfl⟩ := okWide_slice ht hval
  obtain ⟨fuel, hf⟩ := h
  rcases open_ints ht he hc hf with ⟨h1, _⟩ | ⟨a, len', cap', zs, h1, _, hl, hm, hz, _, hcell, hwf⟩
  · simp [Value.cells] at h1
    obtain ⟨rfl, rfl, rfl⟩ := h1
    exact ⟨[], .pv _ _ (.sl [] none 0 1 (fun _ _ => undef) (Nat.le_refl _) (Nat.zero_le _) (by simp) (by simp) (by simp) (by simp)), by simp⟩
  · simp [Value.cells] at h1
    obtain ⟨rfl, rfl, rfl⟩ := h1
    simp only [if_true] at hz
    have hsp : a.spot = none := by
      simp [Value.okWide, ht, Cell.okWide, Cell.ok, World.has] at hval
      exact hval.2.2.2.1
    have hwf' : ∀ i, i < zs.length → 0 ≤ zs.getD i 0 ∧ zs.getD i 0 ≤ 255 := fun i hi => by
      have := hwf _ (List.getElem_mem hi)
      have this : 0 ≤ zs[i] ∧ zs[i] ≤ 255 := by
        simp only [Lit.wf, Bool.and_eq_true, decide_eq_true_eq] at this
        exact this
      rw [List.getD_eq_getElem?_getD, List.getElem?_eq_getElem hi, Option.getD_some]
      exact this
    let l : List UInt8 := (zs.take len).map fun n => UInt8.ofNat n.toNat
    have hll : l.length = len := by simp [l, hz]; omega
    have hgl : ∀ i, i < len → (su8 l)[i]? = some [.lit (.int .u8 (zs.getD i 0))] := fun i hi => by
      have hi' : i < zs.length := by omega
      have := hwf' i hi'
      rw [List.getD_eq_getElem?_getD, List.getElem?_eq_getElem hi', Option.getD_some] at this ⊢
      simp only [su8, l, List.map_map, List.getElem?_map, List.getElem?_take, hi, if_true, List.getElem?_eq_getElem hi', Option.map_some, Function.comp]
      have e : ((UInt8.ofNat (zs[i].toNat)).toNat : Int) = zs[i] := by
        rw [UInt8.toNat_ofNat']; omega
      rw [e]
    have hsl : (su8 l).length = len := by simp [su8, hll]
    have hat : ∀ i, i < len → ∃ ad, some a = some ad ∧ ad.block < W.heap.size ∧ ¬ img β0 [] ad.block ∧ W.cell? (at_ ad (i * 1 + 0)) = some (.int .u8 (zs.getD i 0)) := fun i hi => by
      have h := hcell i (by omega)
      have hs := World.cell?_spot h
      refine ⟨a, rfl, ?_, ?_, ?_⟩
      · have := hlt_of h
        obtain ⟨b, off, sp⟩ := a
        simp only at hsp
        subst hsp
        rw [add_plain] at this
        exact this
      · rintro (h | ⟨_, _, h, _⟩)
        · exact h
        · simp at h
      · have e : at_ a (i * 1 + 0) = a.add i := by
          obtain ⟨b, off, sp⟩ := a
          simp only at hsp
          subst hsp
          rw [add_plain]
          simp [at_]
        rw [e]; exact h
    refine ⟨l, .pv _ _ ?_, by omega⟩
    have key : RelP W (img β0 []) (.sl (su8 l)) (.slice (some a) (su8 l).length cap) := by
      refine .sl (su8 l) (some a) cap 1 (fun i _ => .int .u8 (zs.getD i 0)) (by omega) hm (fun i c hi => ?_) (fun ad had => ?_) (fun i j c d hi hj => ?_) (fun i j c d hi hj => ?_)
      · have hlt : i < len := by rw [← hsl]; exact (List.getElem?_eq_some_iff.1 hi).1
        rw [hgl i hlt] at hi; cases hi; rfl
      · cases had
        exact hsp
      · have hlt : i < len := by rw [← hsl]; exact (List.getElem?_eq_some_iff.1 hi).1
        rw [hgl i hlt] at hi; cases hi
        cases j with
        | zero => exact hat i hlt
        | succ j => simp at hj
      · have hlt : i < len := by rw [← hsl]; exact (List.getElem?_eq_some_iff.1 hi).1
        rw [hgl i hlt] at hi; cases hi
        cases j with
        | zero => simp at hj; subst hj; exact .lit _ rfl
        | succ j => simp at hj
    rw [hsl] at key
    exact key
end

structure RelOf (W : World) where
  d : DV
  v : Value
  h : RelD W β0 [] d v
theorem relL_args {W : World} (l : List (RelOf W)) : RelL W β0 [] (l.map (·.d)) (l.map (·.v)).toArray := by
  refine ⟨by simp, fun i d hi => ?_⟩
  rw [List.getElem?_map] at hi
  cases h : l[i]? with
  | none => simp [h] at hi
  | some r => simp [h] at hi; subst hi; simpa [Array.getD_eq_getD_getElem?, h] using r.h
end Go.V

/-
  V, part 33: arguments that are structs of numbers, truth values and strings.
-/
namespace Go.V

/-- What a plain cell of a type holds. -/
def CellV (P : Program) (u : TypeId) (d : DV) : Prop :=
  (∃ k n, P.underlying u = some (.int k) ∧ d = .int k n ∧ (Lit.int k n).wf = true) ∨ (P.underlying u = some .bool ∧ ∃ b, d = .bool b) ∨ (P.underlying u = some .string ∧ ∃ s, d = .pv (.str s))
theorem CellV.int {P : Program} {u : TypeId} {d : DV} {k : IntKind} (h : CellV P u d) (hu : P.underlying u = some (.int k)) : ∃ n, d = .int k n ∧ (Lit.int k n).wf = true := by
  rcases h with ⟨k', n, h1, h2, h3⟩ | ⟨h1, _⟩ | ⟨h1, _⟩
  · rw [hu] at h1; cases h1; exact ⟨n, h2, h3⟩
  · rw [hu] at h1; cases h1
  · rw [hu] at h1; cases h1
theorem CellV.bool {P : Program} {u : TypeId} {d : DV} (h : CellV P u d) (hu : P.underlying u = some .bool) : ∃ b, d = .bool b := by
  rcases h with ⟨k', n, h1, h2, h3⟩ | ⟨h1, h2⟩ | ⟨h1, _⟩
  · rw [hu] at h1; cases h1
  · exact h2
  · rw [hu] at h1; cases h1
theorem CellV.str {P : Program} {u : TypeId} {d : DV} (h : CellV P u d) (hu : P.underlying u = some .string) : ∃ s, d = .pv (.str s) := by
  rcases h with ⟨k', n, h1, h2, h3⟩ | ⟨h1, _⟩ | ⟨h1, h2⟩
  · rw [hu] at h1; cases h1
  · rw [hu] at h1; cases h1
  · exact h2
end Go.V

/-
  X: arguments that hold slices of plain structs: what is read of them, as values.
-/
namespace Go.V
open Go.ChangeShapes Go.WideShapes Go.Deep

inductive PS | int (k : IntKind) | bool | str
inductive CK | pl (s : PS) | rows (r : List PS)
def fieldsK {α : Type} (P : Program) (f : TypeId → Option (List α)) : List Field → Nat → Option (List α)
  | [], _ => some []
  | g :: r, off => match f g.type with
    | some x => if g.offset = off ∧ P.cellsOf g.type = x.length then (fieldsK P f r (off + x.length)).map (x ++ ·) else none
    | none => none
def plainK (P : Program) : Nat → TypeId → Option (List PS)
  | 0, _ => none
  | n + 1, t => match P.underlying t with
    | some (.int k) => some [.int k]
    | some .bool => some [.bool]
    | some .string => some [.str]
    | some (.struct fs) => match fieldsK P (plainK P n) fs.toList 0 with
      | some x => if P.cellsOf t = x.length then some x else none
      | none => none
    | _ => none
def cellK (P : Program) : Nat → TypeId → Option (List CK)
  | 0, _ => none
  | n + 1, t => match P.underlying t with
    | some (.int k) => some [.pl (.int k)]
    | some .bool => some [.pl .bool]
    | some .string => some [.pl .str]
    | some (.slice e) => match plainK P n e with
      | some r => if P.cellsOf e = r.length ∧ 0 < r.length then some [.rows r] else none
      | none => none
    | some (.struct fs) => match fieldsK P (cellK P n) fs.toList 0 with
      | some x => if P.cellsOf t = x.length then some x else none
      | none => none
    | _ => none
def OkS : PS → PV → Prop
  | .int k, d => ∃ n, d = .lit (.int k n) ∧ (Lit.int k n).wf = true
  | .bool, d => ∃ b, d = .lit (.bool b)
  | .str, d => ∃ l : List UInt8, d = .str l ∧ l.length ≤ maxLen
/-- Cells of these kinds. -/
def OkSs (r : List PS) (c : List PV) : Prop := c.length = r.length ∧ ∀ (i : Nat) (s : PS), r[i]? = some s → ∃ d, c[i]? = some d ∧ OkS s d
def OkC : CK → PV → Prop
  | .pl s, d => OkS s d
  | .rows r, d => ∃ xs, d = .sl xs ∧ xs.length ≤ maxLen ∧ ∀ c ∈ xs, OkSs r c
section
variable {H : Type} {enc : TypeId × Value → H} {P : Program} {W : World} {spare : Nat → Bool} {held : Bool}
def Reads {α : Type} (W : World) (ok : α → PV → Prop) (r : List α) (cs : List Value) : Prop :=
  cs.length = r.length ∧ ∃ ps : List PV, ps.length = r.length ∧ ∀ (i : Nat) (s : α), r[i]? = some s → ∃ d v, ps[i]? = some d ∧ cs[i]? = some v ∧ ok s d ∧ RelP W (img β0 []) d v
theorem reads_app {α : Type} {ok : α → PV → Prop} {r1 r2 : List α} {cs : List Value} (h1 : Reads W ok r1 (cs.take r1.length)) (h2 : Reads W ok r2 (cs.drop r1.length)) (_hl : r1.length ≤ cs.length) : Reads W ok (r1 ++ r2) cs := by
  obtain ⟨a1, ps1, b1, c1⟩ := h1
  obtain ⟨a2, ps2, b2, c2⟩ := h2
  rw [List.length_drop] at a2
  refine ⟨by rw [List.length_append]; omega, ps1 ++ ps2, by rw [List.length_append, List.length_append, b1, b2], fun i s hi => ?_⟩
  rcases Nat.lt_or_ge i r1.length with hlt | hge
  · rw [List.getElem?_append_left hlt] at hi
    obtain ⟨d, v, e1, e2, e3⟩ := c1 i s hi
    rw [List.getElem?_take, if_pos hlt] at e2
    exact ⟨d, v, by rw [List.getElem?_append_left (by omega)]; exact e1, e2, e3⟩
  · rw [List.getElem?_append_right hge] at hi
    obtain ⟨d, v, e1, e2, e3⟩ := c2 _ s hi
    rw [List.getElem?_drop, show r1.length + (i - r1.length) = i by omega] at e2
    exact ⟨d, v, by rw [List.getElem?_append_right (by omega), b1]; exact e1, e2, e3⟩
theorem reads_fields {α : Type} {ok : α → PV → Prop} {f : TypeId → Option (List α)} {cs : List Value} :
    ∀ {fs : List Field} {off : Nat} {r : List α}, fieldsK P f fs off = some r → (cs.length = off + r.length) →
    (∀ (g : Field) (x : List α), g ∈ fs → f g.type = some x → P.cellsOf g.type = x.length → Reads W ok x ((cs.drop g.offset).take (P.cellsOf g.type))) → Reads W ok r (cs.drop off)
  | [], off, r, h, hl, _ => by
    simp [fieldsK] at h
    subst h
    exact ⟨by simp [List.length_drop]; simp at hl; omega, [], rfl, fun i s hi => by simp at hi⟩
  | g :: fs, off, r, h, hl, hf => by
    simp only [fieldsK] at h
    cases hx : f g.type with
    | none => rw [hx] at h; cases h
    | some x =>
      rw [hx] at h
      dsimp only at h
      split at h
      · rename_i hc
        cases hr : fieldsK P f fs (off + x.length) with
        | none => rw [hr] at h; cases h
        | some r2 =>
          rw [hr] at h
          simp at h
          subst h
          rw [List.length_append] at hl
          have h1 := hf g x (by simp) hx hc.2
          rw [hc.1, hc.2] at h1
          have h2 := reads_fields (cs := cs) hr (by omega) (fun g' x' hm e1 e2 => hf g' x' (List.mem_cons_of_mem _ hm) e1 e2)
          refine reads_app h1 ?_ (by rw [List.length_drop]; omega)
          rw [List.drop_drop]
          exact h2
      · cases h
theorem reads_one {α : Type} {ok : α → PV → Prop} {s : α} {d : PV} {v : Value} (h : ok s d) (hr : RelP W (img β0 []) d v) : Reads W ok [s] [v] :=
  ⟨rfl, [d], rfl, fun i s' hi => by
    cases i with
    | zero => simp at hi; subst hi; exact ⟨d, v, rfl, rfl, h, hr⟩
    | succ i => simp at hi⟩
theorem trod_plainK : ∀ (n : Nat) (t : TypeId) (r : List PS), plainK P n t = some r → ∀ (fuel : Nat) (cs : List Value) (x : DataW H × List MemPlace), DataW.trod enc P W 0 spare held fuel t cs = some x → Reads W OkS r cs
  | 0, t, r, h => by simp [plainK] at h
  | n + 1, t, r, h => fun fuel cs x hx => by
    unfold plainK at h
    split at h
    · rename_i k hu
      simp at h; subst h
      obtain ⟨m, rfl, _, hw⟩ := DataW.trod_int hu hx
      exact reads_one ⟨m, rfl, hw⟩ (.lit _ rfl)
    · rename_i hu
      simp at h; subst h
      obtain ⟨b, rfl, _⟩ := DataW.trod_bool hu hx
      exact reads_one ⟨b, rfl⟩ (.lit _ rfl)
    · rename_i hu
      simp at h; subst h
      obtain ⟨b, rfl, _, hl⟩ := DataW.trod_string hu hx
      exact reads_one ⟨b.data.toList, rfl, by simpa using hl⟩ (.str _)
    · rename_i fs hu
      obtain ⟨xs, m, _, _, hlen, hxl, hf⟩ := DataW.trod_struct hu hx
      split at h
      · rename_i y hy
        split at h
        · rename_i hc
          simp at h; subst h
          have := reads_fields (ok := OkS) (W := W) (cs := cs) hy (by omega) (fun g z hm e1 _ => by
            obtain ⟨i, hi⟩ := List.getElem?_of_mem hm
            have hi2 : fs[i]? = some g := by simpa using hi
            have hlt : i < fs.size := (Array.getElem?_eq_some_iff.1 hi2).1
            have h3 := hf i g hi2
            rw [List.getElem?_eq_getElem (by omega)] at h3
            exact trod_plainK n g.type z e1 _ _ _ h3)
          simpa using this
        · cases h
      · cases h
    · cases h
/-- A slice of plain rows. -/
theorem trod_rows {n : Nat} {t e : TypeId} {r : List PS} (ht : P.underlying t = some (.slice e)) (he : plainK P n e = some r) (hc : P.cellsOf e = r.length) {fuel : Nat} {cs : List Value} {x : DataW H × List MemPlace}
    (hx : DataW.trod enc P W 0 (fun _ => true) held fuel t cs = some x) (hspot : ∀ a len cap, cs = [.slice (some a) len cap] → a.spot = none) : Reads W OkC [.rows r] cs := by
  rcases open_slice ht hx with ⟨rfl, _⟩ | ⟨a, len, cap, m, q, D, Pl, rfl, _, hl, hm, hmm, _, hel⟩
  · exact reads_one (d := .sl []) ⟨[], rfl, Nat.zero_le _, by simp⟩ (.sl [] none 0 r.length (fun _ _ => undef) (Nat.le_refl _) (Nat.zero_le _) (by simp) (by simp) (by simp) (by simp))
  · have hsp := hspot a len cap rfl
    simp only [if_true] at hmm
    rw [hmm] at hel
    have each : ∀ i, i < len → ∃ q : List PV × List Value, q.1.length = r.length ∧ q.2.length = r.length ∧ (∀ (j : Nat) (s : PS), r[j]? = some s → ∃ d v, q.1[j]? = some d ∧ q.2[j]? = some v ∧ OkS s d ∧ RelP W (img β0 []) d v) ∧
        ∀ j, j < r.length → W.cell? (at_ a (i * r.length + j)) = q.2[j]? := by
      intro i hi
      obtain ⟨cs', h1, h2⟩ := hel i (by omega)
      obtain ⟨_, h3, h4⟩ := World.cells?_some h1
      obtain ⟨k1, ps, k2, k3⟩ := trod_plainK n e r he _ _ _ h2
      refine ⟨(ps, cs'), k2, k1, k3, fun j hj => ?_⟩
      have h5 := h4 j (by omega)
      rw [← h5]
      congr 1
      obtain ⟨b, off, sp⟩ := a
      simp only at hsp
      subst hsp
      rw [add_plain, add_plain, hc]
      simp [at_, Nat.add_assoc]
    obtain ⟨q, hq⟩ := choose_lt each
    let xs : List (List PV) := (List.range len).map fun i => (q i).1
    have hxl : xs.length = len := by simp [xs]
    have hxg : ∀ i c, xs[i]? = some c → i < len ∧ c = (q i).1 := fun i c h => by
      have hlt : i < len := by rw [← hxl]; exact (List.getElem?_eq_some_iff.1 h).1
      simp only [xs, List.getElem?_map, List.getElem?_range hlt, Option.map_some, Option.some.injEq] at h
      exact ⟨hlt, h.symm⟩
    have key : RelP W (img β0 []) (.sl xs) (.slice (some a) xs.length cap) := by
      refine .sl xs (some a) cap r.length (fun i j => ((q i).2).getD j undef) (by omega) hm (fun i c hi => ?_) (fun ad had => by cases had; exact hsp) (fun i j c d hi hj => ?_) (fun i j c d hi hj => ?_)
      · obtain ⟨hlt, rfl⟩ := hxg i c hi
        exact (hq i hlt).1
      · obtain ⟨hlt, rfl⟩ := hxg i c hi
        obtain ⟨g1, g2, g3, g4⟩ := hq i hlt
        have hj' : j < r.length := by rw [← g1]; exact (List.getElem?_eq_some_iff.1 hj).1
        have h6 := g4 j hj'
        rw [List.getElem?_eq_getElem (by omega)] at h6
        refine ⟨a, rfl, (by show (at_ a (i * r.length + j)).block < _; exact hlt_of h6), ?_, ?_⟩
        · rintro (h | ⟨_, _, h, _⟩)
          · exact h
          · simp at h
        · rw [h6, List.getD_eq_getElem?_getD, List.getElem?_eq_getElem (by omega)]; rfl
      · obtain ⟨hlt, rfl⟩ := hxg i c hi
        obtain ⟨g1, g2, g3, g4⟩ := hq i hlt
        have hj' : j < r.length := by rw [← g1]; exact (List.getElem?_eq_some_iff.1 hj).1
        obtain ⟨d', v, e1, e2, e3, e4⟩ := g3 j _ (List.getElem?_eq_getElem hj')
        rw [hj] at e1
        cases e1
        rw [List.getD_eq_getElem?_getD, e2]
        exact e4
    rw [hxl] at key
    refine reads_one (d := .sl xs) ⟨xs, rfl, by omega, fun c hm2 => ?_⟩ key
    obtain ⟨i, hi⟩ := List.getElem?_of_mem hm2
    obtain ⟨hlt, rfl⟩ := hxg i c hi
    obtain ⟨g1, _, g3, _⟩ := hq i hlt
    exact ⟨g1, fun j s hs => by
      obtain ⟨d, _, e1, _, e3, _⟩ := g3 j s hs
      exact ⟨d, e1, e3⟩⟩
theorem trod_cellK : ∀ (n : Nat) (t : TypeId) (r : List CK), cellK P n t = some r → ∀ (fuel : Nat) (cs : List Value) (x : DataW H × List MemPlace), DataW.trod enc P W 0 (fun _ => true) held fuel t cs = some x →
    (∀ (i : Nat) a len cap, cs[i]? = some (.slice (some a) len cap) → a.spot = none) → Reads W OkC r cs
  | 0, t, r, h => by simp [cellK] at h
  | n + 1, t, r, h => fun fuel cs x hx hsp => by
    unfold cellK at h
    split at h
    · rename_i k hu
      simp at h; subst h
      obtain ⟨m, rfl, _, hw⟩ := DataW.trod_int hu hx
      exact reads_one (ok := OkC) (d := .lit (.int k m)) ⟨m, rfl, hw⟩ (.lit _ rfl)
    · rename_i hu
      simp at h; subst h
      obtain ⟨b, rfl, _⟩ := DataW.trod_bool hu hx
      exact reads_one (ok := OkC) (d := .lit (.bool b)) ⟨b, rfl⟩ (.lit _ rfl)
    · rename_i hu
      simp at h; subst h
      obtain ⟨b, rfl, _, hl⟩ := DataW.trod_string hu hx
      exact reads_one (ok := OkC) (d := .str b.data.toList) ⟨b.data.toList, rfl, by simpa using hl⟩ (.str _)
    · rename_i e hu
      split at h
      · rename_i y hy
        split at h
        · rename_i hc
          simp at h; subst h
          exact trod_rows hu hy hc.1 hx fun a len cap e => hsp 0 a len cap (by rw [e]; rfl)
        · cases h
      · cases h
    · rename_i fs hu
      obtain ⟨xs, m, _, _, hlen, hxl, hf⟩ := DataW.trod_struct hu hx
      split at h
      · rename_i y hy
        split at h
        · rename_i hc
          simp at h; subst h
          have := reads_fields (ok := OkC) (W := W) (cs := cs) hy (by omega) (fun g z hm e1 e2 => by
            obtain ⟨i, hi⟩ := List.getElem?_of_mem hm
            have hi2 : fs[i]? = some g := by simpa using hi
            have hlt : i < fs.size := (Array.getElem?_eq_some_iff.1 hi2).1
            have h3 := hf i g hi2
            rw [List.getElem?_eq_getElem (by omega)] at h3
            refine trod_cellK n g.type z e1 _ _ _ h3 fun j a len cap hj => ?_
            rw [List.getElem?_take] at hj
            split at hj
            · rw [List.getElem?_drop] at hj
              exact hsp _ a len cap hj
            · cases hj)
          simpa using this
        · cases h
      · cases h
    · cases h
/-- An argument that is a struct: its cells. -/
theorem arg_struct {r0 : Reach} {b0 : Nat} {t : TypeId} {fs : Array Field} {v : Value} {d : DataW H} {ps : List MemPlace} {n : Nat} {r : List CK} (ht : P.underlying t = some (.struct fs)) (hk : cellK P n t = some r)
    (hval : Value.okWide P W r0 b0 t v) (h : DataW.Trod enc P W 0 (fun _ => true) held t v d ps) :
    ∃ l : List PV, RelD W β0 [] (.agg (l.map .pv)) v ∧ l.length = r.length ∧ ∀ (i : Nat) (k : CK), r[i]? = some k → ∃ d, l[i]? = some d ∧ OkC k d := by
  have hv : ∃ cs, v = .agg cs ∧ cs.size = P.cellsOf t ∧ Row.okWide P W r0 b0 t cs := by simp only [Value.okWide, ht] at hval; exact hval
  obtain ⟨cs, rfl, hsz, ts, hts, _, hcell⟩ := hv
  obtain ⟨fuel, hf⟩ := h
  have hf' : DataW.trod enc P W 0 (fun _ => true) held fuel t cs.toList = some (d, ps) := hf
  obtain ⟨h1, l, h2, h3⟩ := trod_cellK n t r hk _ _ _ hf' fun i a len cap hi => by
    have hi2 : cs[i]? = some (.slice (some a) len cap) := by simpa using hi
    obtain ⟨u, _, hok⟩ := hcell i _ hi2
    cases hu : P.underlying u with
    | none => simp [Cell.okWide, Cell.ok, hu] at hok
    | some td =>
      cases td <;> first
        | (simp [Cell.okWide, Cell.ok, hu] at hok; done)
        | (simp only [Cell.okWide, Cell.ok, hu, World.has] at hok; exact hok.2.2.2.1)
  refine ⟨l, .agg _ _ (by rw [List.length_map, h2, ← h1, Array.length_toList]) (fun i d hi => ?_), h2, fun i k hi => ?_⟩
  · rw [List.getElem?_map] at hi
    obtain ⟨p, hp, rfl⟩ := map_eq hi
    have hlt : i < r.length := by rw [← h2]; exact (List.getElem?_eq_some_iff.1 hp).1
    obtain ⟨d', v, e1, e2, e3, e4⟩ := h3 i _ (List.getElem?_eq_getElem hlt)
    rw [hp] at e1
    cases e1
    have e5 : cs[i]? = some v := by simpa using e2
    rw [Array.getD_eq_getD_getElem?, e5]
    exact .pv _ _ e4
  · obtain ⟨d', v, e1, e2, e3, e4⟩ := h3 i k hi
    exact ⟨d', e1, e3⟩
end
end Go.V
