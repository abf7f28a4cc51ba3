/-
  V, part 31: a region's edges closed, so that a chain may run through operations that wait for one another by others.
-/
import Derived.Test.YtmdjgpnonhbfdaaV2
import Derived.Carry
namespace Go.V

def aft (o : Oper) (l : List Nat) : Oper := { o with after := (o.after.toList ++ l.map fun i => (⟨i, .data⟩ : Edge)).toArray }
def tclL (D : List (List Nat)) : Nat → List Oper → List Oper
  | _, [] => []
  | j, o :: r => aft o (D.getD j []) :: tclL D (j + 1) r
def tcl (ops : Array Oper) (D : List (List Nat)) : Array Oper := (tclL D 0 ops.toList).toArray
/-- What is added is implied. -/
def dOk (ops : Array Oper) (D : List (List Nat)) : Bool :=
  (List.range ops.size).all fun j => (D.getD j []).all fun i => bnd ops j i || (List.range ops.size).any fun m => bnd ops j m && (D.getD m []).contains i

theorem tclL_get (D : List (List Nat)) : ∀ (l : List Oper) (j i : Nat), (tclL D j l)[i]? = l[i]?.map fun o => aft o (D.getD (j + i) [])
  | [], j, i => by simp [tclL]
  | o :: r, j, 0 => by simp [tclL]
  | o :: r, j, i + 1 => by
    simp only [tclL, List.getElem?_cons_succ]
    rw [tclL_get D r (j + 1) i, Nat.add_right_comm]; rfl
theorem tcl_get (ops : Array Oper) (D : List (List Nat)) (i : Nat) : (tcl ops D)[i]? = ops[i]?.map fun o => aft o (D.getD i []) := by
  have := tclL_get D ops.toList 0 i
  simpa [tcl] using this
theorem tclL_len (D : List (List Nat)) : ∀ (l : List Oper) (j : Nat), (tclL D j l).length = l.length
  | [], _ => rfl
  | o :: r, j => by simp [tclL, tclL_len D r]
theorem tcl_size (ops : Array Oper) (D : List (List Nat)) : (tcl ops D).size = ops.size := by simp [tcl, tclL_len]

section
variable {P : Program} {ops : Array Oper} {D : List (List Nat)} {Q : Exit → Act → World → Prop}

theorem tcl_dst (i : Nat) : ((tcl ops D)[i]?).bind (·.dst) = (ops[i]?).bind (·.dst) := by
  rw [tcl_get]; cases ops[i]? <;> rfl
theorem tcl_yielded (tmps : Array Value) : yielded (tcl ops D) tmps = yielded ops tmps := by
  funext j
  unfold yielded
  rw [tcl_dst]

theorem tcl_wpOp {i : Nat} {K : Act → World → Prop} {a : Act} {w : World} (h : wpOp P (tcl ops D) Q i K a w) : wpOp P ops Q i K a w := by
  unfold wpOp at h ⊢
  rw [tcl_get] at h
  cases ho : ops[i]? with
  | none => simpa [ho] using h
  | some o =>
    simp only [ho, Option.map_some] at h ⊢
    rw [tcl_yielded] at h
    exact h

def Cl (D : List (List Nat)) (L : Array Bool) : Prop := ∀ j, j < L.size → L.getD j false = true → ∀ i ∈ D.getD j [], L.getD i false = true

theorem tcl_ready (hd : dOk ops D = true) {L : Array Bool} (hs : L.size = ops.size) (hc : Cl D L) (i : Nat) (h : i ∈ Region.ready .any ops L) : i ∈ Region.ready .any (tcl ops D) L ∧ ∀ m ∈ D.getD i [], L.getD m false = true := by
  obtain ⟨h0, o, ho, hdep⟩ := mem_ready.1 h
  have hlt : i < ops.size := (Array.getElem?_eq_some_iff.1 ho).1
  have key : ∀ m ∈ D.getD i [], L.getD m false = true := by
    intro m hm
    have h1 := List.all_eq_true.1 hd i (List.mem_range.2 hlt)
    have h2 := List.all_eq_true.1 h1 m hm
    rw [Bool.or_eq_true] at h2
    have dep : ∀ x, bnd ops i x = true → L.getD x false = true := by
      intro x hx
      unfold bnd at hx
      rw [ho] at hx
      simp only [List.any_eq_true, Bool.and_eq_true, beq_iff_eq] at hx
      obtain ⟨e, he, hb, rfl⟩ := hx
      exact hdep e (by simpa using he) hb
    rcases h2 with h2 | h2
    · exact dep m h2
    · obtain ⟨x, hx, h3⟩ := List.any_eq_true.1 h2
      rw [Bool.and_eq_true] at h3
      exact hc x (by rw [hs]; exact List.mem_range.1 hx) (dep x h3.1) m (by simpa using h3.2)
  refine ⟨mem_ready.2 ⟨h0, aft o (D.getD i []), by rw [tcl_get, ho]; rfl, fun e he hb => ?_⟩, key⟩
  simp only [aft, List.mem_toArray, List.mem_append, List.mem_map] at he
  rcases he with he | ⟨m, hm, rfl⟩
  · exact hdep e (by simpa using he) hb
  · exact key m hm

theorem tcl_ready_nil {L : Array Bool} (hs : L.size = ops.size) (hd : dOk ops D = true) (hc : Cl D L) : (Region.ready .any ops L = [] ↔ Region.ready .any (tcl ops D) L = []) := by
  constructor
  · intro h
    apply List.eq_nil_iff_forall_not_mem.2
    intro j hj
    obtain ⟨h0, o, ho, hdep⟩ := mem_ready.1 hj
    rw [tcl_get] at ho
    cases hj' : ops[j]? with
    | none => rw [hj'] at ho; cases ho
    | some o' =>
      rw [hj'] at ho
      simp only [Option.map_some, Option.some.injEq] at ho
      subst ho
      have : j ∈ Region.ready .any ops L := mem_ready.2 ⟨h0, o', hj', fun e he hb => hdep e (by simp only [aft, List.mem_toArray, List.mem_append]; exact .inl (by simpa using he)) hb⟩
      rw [h] at this; cases this
  · intro h
    apply List.eq_nil_iff_forall_not_mem.2
    intro j hj
    have := (tcl_ready hd hs hc j hj).1
    rw [h] at this; cases this

theorem tcl_wpAny (hd : dOk ops D = true) : ∀ (fuel : Nat) (L : Array Bool) (a : Act) (w : World), L.size = ops.size → Cl D L → wpAny P .any (tcl ops D) Q fuel L a w → wpAny P .any ops Q fuel L a w
  | 0, L, a, w, hs, hc, h => ⟨(tcl_ready_nil hs hd hc).2 h.1, h.2⟩
  | fuel + 1, L, a, w, hs, hc, h => by
    refine ⟨fun hr => h.1 ((tcl_ready_nil hs hd hc).1 hr), fun i hi => ?_⟩
    obtain ⟨h1, h2⟩ := tcl_ready hd hs hc i hi
    refine wpOp_mono (fun a w hw => tcl_wpAny hd fuel _ a w (by simpa using hs) ?_ hw) (tcl_wpOp (h.2 i h1))
    intro j hj hl m hm
    by_cases hji : j = i
    · subst hji
      have := h2 m hm
      by_cases hmj : m = j
      · subst hmj; exact hl
      · rw [getD_set_ne false (Ne.symm hmj)]; exact this
    · rw [getD_set_ne false (Ne.symm hji)] at hl
      have := hc j (by simpa using hj) hl m hm
      by_cases hmi : m = i
      · subst hmi
        have hlt : m < L.size := by
          rcases Nat.lt_or_ge m L.size with h | h
          · exact h
          · simp [h] at this
        simp [hlt]
      · rw [getD_set_ne false (Ne.symm hmi)]; exact this

theorem tcl_pick : ∀ (l : List Nat), pick (tcl ops D).toList l = (l.filterMap fun i => (ops[i]?).map fun o => aft o (D.getD i []))
  | [] => rfl
  | i :: r => by
    have h : (tcl ops D).toList[i]? = (ops[i]?).map fun o => aft o (D.getD i []) := by
      have := tcl_get ops D i
      simpa using this
    rw [pick, h, List.filterMap_cons]
    cases ops[i]? with
    | none => exact tcl_pick r
    | some o => simp only [Option.map_some]; rw [tcl_pick r]
theorem ops_pick : ∀ (l : List Nat), pick ops.toList l = (l.filterMap fun i => ops[i]?)
  | [] => rfl
  | i :: r => by
    have h : ops.toList[i]? = ops[i]? := by simp
    rw [pick, h, List.filterMap_cons]
    cases ops[i]? with
    | none => exact ops_pick r
    | some o => simp only; rw [ops_pick r]

/-- The same operations, but for their edges. -/
inductive SameL : List Oper → List Oper → Prop
  | nil : SameL [] []
  | cons (o : Oper) (l : List Nat) {r r' : List Oper} : SameL r r' → SameL (aft o l :: r) (o :: r')
theorem pick_same : ∀ (l : List Nat), SameL (pick (tcl ops D).toList l) (pick ops.toList l)
  | [] => .nil
  | i :: r => by
    have h : (tcl ops D).toList[i]? = (ops[i]?).map fun o => aft o (D.getD i []) := by
      have := tcl_get ops D i
      simpa using this
    have h' : ops.toList[i]? = ops[i]? := by simp
    rw [pick, pick, h, h']
    cases ops[i]? with
    | none => exact pick_same r
    | some o => exact .cons o _ (pick_same r)
theorem tcl_vguard {S : St} {o : Oper} {l : List Nat} : vguard (tcl ops D).toList S (aft o l) = vguard ops.toList S o := by
  have key : ∀ j : Nat, (tcl ops D).toList[j]?.bind (·.dst) = ops.toList[j]?.bind (·.dst) := fun j => by
    have := tcl_dst (ops := ops) (D := D) j
    simpa using this
  unfold vguard
  have e : (aft o l).guard = o.guard := rfl
  rw [e]
  simp only [key]
theorem tcl_vrun : ∀ {l' l : List Oper}, SameL l' l → ∀ {K K' : St → Prop} {S : St}, (∀ S, K S → K' S) → vrun P ops.toList l K S → vrun P (tcl ops D).toList l' K' S := by
  intro l' l hs
  induction hs with
  | nil => intro K K' S hk h; exact hk S h
  | cons o x _ ih =>
    intro K K' S hk h
    unfold vrun at h ⊢
    rw [tcl_vguard]
    refine ⟨h.1, ?_⟩
    have h2 := h.2
    have e1 : (aft o x).op = o.op := rfl
    have e2 : (aft o x).guard = o.guard := rfl
    have e3 : (aft o x).dst = o.dst := rfl
    rw [e1, e2, e3]
    clear h
    generalize vguard ops.toList S o = gd at h2 ⊢
    split at h2
    · exact h2.elim
    · rename_i G
      split at h2
      · rename_i g args hc
        split at h2
        · rename_i hgd
          exact h2.mono fun r h' q => ih hk q
        · rename_i jw hgd
          exact h2.imp (fun ⟨r, a, b⟩ => ⟨r, a, ih hk b⟩) (fun ⟨a, b⟩ => ⟨fun e => (a e).mono fun r h' q => ih hk q, fun e => ih hk (b e)⟩)
      · rename_i hc
        split at h2
        · rename_i d hp' hv
          exact ih hk h2
        · rename_i hv
          exact ⟨h2.1, ih hk h2.2⟩
theorem tcl_agree {S S1 : St} : ∀ {l' l : List Oper}, SameL l' l → agree ops.toList S S1 l → agree (tcl ops D).toList S S1 l' := by
  intro l' l hs
  induction hs with
  | nil => intro h; exact h
  | cons o x _ ih =>
    intro h
    refine ⟨?_, ih h.2⟩
    rw [tcl_vguard]
    exact h.1
theorem tcl_creas {S : St} : ∀ {l' l : List Oper}, SameL l' l → creasOk P S l → creasOk P S l' := by
  intro l' l hs
  induction hs with
  | nil => intro h; exact h
  | cons o x _ ih => intro h; exact ⟨h.1, ih h.2⟩
theorem tcl_vsp {K : St → Prop} : ∀ {segs : List Seg} {S : St}, vsp P ops.toList segs K S → vsp P (tcl ops D).toList segs K S
  | [], S, h => h
  | s :: r, S, h => by
    unfold vsp at h ⊢
    exact ⟨tcl_creas (pick_same _) h.1, tcl_vrun (pick_same _) (fun S1 ⟨a, b⟩ => ⟨tcl_agree (pick_same _) a, tcl_vrun (pick_same _) (fun S h => tcl_vsp h) b⟩) h.2⟩

end

/-- A region that draws its order, with a spine whose edges are closed by D. -/
theorem vspineT {P : Program} {ops : Array Oper} {id : Nat} {Q : Exit → St → Prop} {S : St} (D : List (List Nat)) (H0 : List Nat) (segs : List Seg) (hm : P.follows .mixedOrders = true) (hd : dOk ops D = true) (hok : spineOk (tcl ops D) H0 segs = true)
    (h : vrun P ops.toList (pick ops.toList H0) (vsp P ops.toList segs (Q .normal)) S) : VDraw P id ops Q S := by
  have h' : vrun P (tcl ops D).toList (pick (tcl ops D).toList H0) (vsp P (tcl ops D).toList segs (Q .normal)) S := tcl_vrun (pick_same _) (fun S h => tcl_vsp h) h
  intro O β a w hs
  have hw := vspine_any (ops := tcl ops D) H0 segs hok h' hs
  rw [tcl_size] at hw
  refine wp_region_any hm (tcl_wpAny hd _ _ _ _ (by simp) (fun j _ hl => ?_) hw)
  by_cases hj : j < ops.size <;> simp [hj] at hl
end Go.V

/-
  V, part 30: lists of strings; texts of numbers that are drawn.
-/
namespace Go.V
def encS : Enc (List UInt8) := ⟨1, fun s => [.str s], Nat.one_pos, fun _ => rfl⟩
theorem cellsS (l : List (List UInt8)) : cells encS l = l.map fun s => DV.pv (.str s) := by
  induction l with
  | nil => rfl
  | cons a r ih => rw [cells_cons, ih]; rfl
theorem cellsS_len (l : List (List UInt8)) : (cells encS l).length = l.length := by rw [cellsS, List.length_map]
theorem cellsS_get (l : List (List UInt8)) (i : Nat) (h : i < l.length) : (cells encS l)[i]? = some (.pv (.str (l.getD i []))) := by
  rw [cellsS, List.getElem?_map, List.getD_eq_getElem?_getD, List.getElem?_eq_getElem h]; rfl
theorem getD_mem {α : Type} (l : List α) (i : Nat) (d : α) (h : i < l.length) : l.getD i d ∈ l := by
  rw [List.getD_eq_getElem?_getD, List.getElem?_eq_getElem h]; exact List.getElem_mem h

/-- Codes: the numbers, and how many are used. -/
structure C where
  l : List UInt8
  at_ : Nat
  ha : at_ ≤ l.length
  hl : l.length ≤ 1000000
def cc (c : C) : List DV := [.pv (.sl (fz encU c.l)), .int .i64 c.at_]
theorem cc_nums (c : C) : DV.nums.go (fun _ => false) (cc c) = true := rfl
theorem tmod_lt' (x n : Nat) (h : 1 ≤ n) : ∃ y : Nat, (x : Int).tmod n = y ∧ y < n := ⟨x % n, by rw [Int.ofNat_tmod], Nat.mod_lt _ h⟩
theorem vcso_four {hp : Heap} {a b c d : Int} : vcso hp 0 4 (some [.pv (.lit (.int .u8 a)), .pv (.lit (.int .u8 b)), .pv (.lit (.int .u8 c)), .pv (.lit (.int .u8 d))]) = some (.pv (.str [UInt8.ofNat a.toNat, UInt8.ofNat b.toNat, UInt8.ofNat c.toNat, UInt8.ofNat d.toNat]), hp) := rfl
theorem vcso_cells {hp : Heap} {l : List UInt8} {n : Nat} (h : l.length = n) : vcso hp 0 n (some (cells encU l)) = some (.pv (.str l), hp) := by
  subst h
  have e : ((cells encU l).drop 0).take l.length = cells encU l := by rw [List.drop_zero, List.take_of_length_le]; rw [cellsU_len]; exact Nat.le_refl _
  simp only [vcso]
  rw [if_pos (by rw [cellsU_len]; omega), e, bytesOf_cells]
  simp
end Go.V

/-
  V, part 18: from a law's contract to its row: arguments that are read, and what lies behind the call.
-/
namespace Go.V
open Go.RowKit Go.WideShapes Go.ChangeShapes

def β0 : Map := ⟨fun _ => none, fun _ => False⟩
theorem heapRel0 (w : World) : HeapRel w β0 [] := ⟨by simp, by simp, by simp, by simp, fun _ h => h.elim⟩

/-- What a law's walk says: true; and of what was there nothing has turned. -/
theorem law_walk {P : Program} {g : FuncId} {ds : List DV} {vs : Array Value} {w : World} (hb : ∃ fn, P.funcs[g]? = some fn ∧ fn.body.isNone = false) (c : VCalls P g ds [] (Ret (.bool true))) (h : RelL w β0 [] ds vs) :
    Calls P g vs w fun e w' => e = .returned (.bool true) ∧ Below w.heap.size w w' := by
  rcases c.run w β0 vs (heapRel0 w) h with ⟨_, _, _, _, h4⟩ | ⟨fn, _, _, h1, h2, _⟩
  rotate_left
  · obtain ⟨fn', k1, k2⟩ := hb
    rw [h1] at k1
    cases k1
    rw [h2] at k2
    cases k2
  refine h4.mono fun e w' ⟨v, r, h', β', he, ev, _, hr, _, _, hd⟩ => ?_
  subst hd
  obtain rfl := relD_lit hr
  exact ⟨he, ev.os, ev.tape, ev.output, ev.size, fun k hk => ev.same k hk (by rintro ⟨_, _, h, _⟩; simp at h)⟩

section
variable {H : Type} {enc : TypeId × Value → H} {P : Program}

theorem trodAll_below (hl : laidOutB P = true) {W W' : World} (hb : Below W.heap.size W W') {sp : Nat → Bool} : ∀ {ts : List TypeId} {vs : List Value} {ds : List (DataW H)} {ps : List MemPlace},
    (ts.all fun t => P.readableRec t && decide (t < P.types.size)) = true → DataW.TrodAll enc P W 0 (fun _ => true) true ts vs ds ps → (∀ x ∈ ps, x.block < W.heap.size) → (∀ x ∈ ps, sp x.block = true) → DataW.TrodAll enc P W' 0 sp true ts vs ds ps
  | [], _, _, _, _, h, _, _ => by
    obtain ⟨rfl, rfl, rfl⟩ := trodAll_nil h
    exact rfl
  | t :: ts, _, _, _, hr, h, hlt, hs => by
    obtain ⟨v, vs1, d, ds1, a, b, rfl, rfl, rfl, h1, h2⟩ := trodAll_cons h
    simp only [List.all_cons, Bool.and_eq_true, decide_eq_true_eq] at hr
    exact ⟨a, b, WideElems.Trod_stays hl hr.1.1 hr.1.2 h1 (fun x hx => hb.same (hlt x (List.mem_append_left _ hx))) (fun x hx => hs x (List.mem_append_left _ hx)),
      trodAll_below hl hb (by simpa using hr.2) h2 (fun x hx => hlt x (List.mem_append_right _ hx)) (fun x hx => hs x (List.mem_append_right _ hx)), rfl⟩

/-- The row's last step of a law. -/
theorem law_post {f : Func} {s : ChangeSpec} {apart fresh handsOn again : Bool} {W W' : World} {args : Array Value} {ds gs : List (DataW H)} {before : List MemPlace} {Tb : TypeId}
    (hW : DataW.Whole enc P f.params.toList s.vars apart W args.toList ds gs before) (hl : laidOutB P = true)
    (hts : (f.params.toList.all fun t => P.readableRec t && decide (t < P.types.size)) = true)
    (hvs : s.vars = []) (hres : f.resultTypes = #[Tb]) (hTb : P.underlying Tb = some .bool)
    (hr : (s.fn H ds).results = [.lit (.bool true)]) (ha : (s.fn H ds).args = ds) (hv : (s.fn H ds).vars = [])
    (hb : Below W.heap.size W W') : s.post enc P f apart fresh handsOn again W args (.bool true) W' := by
  have hlt : ∀ p ∈ before, p.block < W.heap.size := fun p hp => hW.lt p hp
  have hold : ∀ p ∈ before, (fun b => decide (b < W.heap.size)) p.block = true := fun p hp => by simpa using hlt p hp
  have hW2 := hW
  obtain ⟨p, q, hA, hV, hpq, hz, hn⟩ := hW2
  rw [hvs] at hV
  obtain ⟨rfl, rfl⟩ := trodVars_none hV
  have hpb : before = p := by simpa using hpq
  subst hpb
  have hargs : ∀ sp : Nat → Bool, (∀ x ∈ before, sp x.block = true) → DataW.TrodAll enc P W' 0 sp true f.params.toList args.toList (s.fn H (ds ++ [])).args before := fun sp hs => by
    rw [List.append_nil, ha]
    exact trodAll_below hl hb hts hA hlt hs
  have hres' : ∀ (b : Nat) (sp : Nat → Bool) (hd : Bool), DataW.TrodAll enc P W' b sp hd f.resultTypes.toList ((Value.bool true).resultList f.resultTypes.size) (s.fn H (ds ++ [])).results [] := fun b sp hd => by
    rw [List.append_nil, hr, hres]
    exact trodAll_mk1 (shut_bool hTb true)
  have hvars : ∀ sp : Nat → Bool, DataW.TrodVars enc P W' sp s.vars (s.fn H (ds ++ [])).vars [] := fun sp => by
    rw [List.append_nil, hv, hvs]; exact rfl
  refine ⟨ds, [], before, [], before, [], hW, hres' _ _ _, hargs _ hold, hvars _, World.keptBut_mono (fun p hp => ⟨hp, ?_⟩) (hb.frame (· ∈ before)), fun _ => ?_⟩
  · simpa using hp
  · refine ⟨ok_one hres rfl (by simp [Value.okWide, hTb, Cell.okWide, Cell.ok]), _, _, ([] ++ before) ++ [], ⟨[] ++ before, [], trodAll_append (hargs _ (fun _ _ => rfl)) (hres' _ _ _), hvars _, rfl, ?_, ?_⟩, ?_⟩
    · intro b off hp
      have hin : MemPlace.cell b off ∈ before := by simpa using hp
      rw [hb.frozen (hlt _ hin)]
      exact hz b off hin
    · intro ha
      simpa using hn ha
    · intro p hp _
      simpa using hp

/-! ### Arguments -/
theorem arg_int {r : Reach} {b0 : Nat} {W : World} {t : TypeId} {k : IntKind} {v : Value} {d : DataW H} {ps : List MemPlace} (ht : P.underlying t = some (.int k)) (hval : Value.okWide P W r b0 t v) (h : DataW.Trod enc P W 0 (fun _ => true) true t v d ps) :
    ∃ n : Int, RelD W β0 [] (.int k n) v ∧ (Lit.int k n).wf = true := by
  obtain ⟨n, rfl, _, _, hw⟩ := open_int ht hval h
  exact ⟨n, .pv _ _ (.lit _ rfl), hw⟩

theorem arg_bool {r : Reach} {b0 : Nat} {W : World} {t : TypeId} {v : Value} {d : DataW H} {ps : List MemPlace} (ht : P.underlying t = some .bool) (hval : Value.okWide P W r b0 t v) (h : DataW.Trod enc P W 0 (fun _ => true) true t v d ps) :
    ∃ b : Bool, RelD W β0 [] (.bool b) v := by
  obtain ⟨b, rfl, _, _⟩ := open_bool ht hval h
  exact ⟨b, .pv _ _ (.lit _ rfl)⟩

theorem arg_str {r : Reach} {b0 : Nat} {W : World} {t : TypeId} {v : Value} {d : DataW H} {ps : List MemPlace} (ht : P.underlying t = some .string) (hval : Value.okWide P W r b0 t v) (h : DataW.Trod enc P W 0 (fun _ => true) true t v d ps) :
    ∃ l : List UInt8, RelD W β0 [] (.pv (.str l)) v ∧ l.length ≤ maxLen := by
  obtain ⟨s, rfl, _, _, hw⟩ := ChangeMaps.open_string ht hval h
  exact ⟨s.data.toList, .pv _ _ (.str _), by simpa using hw⟩

def su8 (l : List UInt8) : List (List PV) := l.map fun b => [.lit (.int .u8 b.toNat)]

theorem hlt_of {W : World} {a : Addr} {v : Value} (h : W.cell? a = some v) : a.block < W.heap.size := by
  by_cases hb : a.block < W.heap.size
  · exact hb
  · have : W.heap[a.block]? = none := by simp; omega
    simp [World.cell?, this] at h

theorem arg_u8s {r : Reach} {b0 : Nat} {W : World} {t e : TypeId} {v : Value} {d : DataW H} {ps : List MemPlace} (ht : P.underlying t = some (.slice e)) (he : P.underlying e = some (.int .u8)) (hc : P.cellsOf e = 1)
    (hval : Value.okWide P W r b0 t v) (h : DataW.Trod enc P W 0 (fun _ => true) true t v d ps) :
    ∃ l : List UInt8, RelD W β0 [] (.pv (.sl (su8 l))) v ∧ l.length ≤ maxLen := by
  obtain ⟨a0, len, cap, rfl⟩ := okWide_slice ht hval
  obtain ⟨fuel, hf⟩ := h
  rcases open_ints ht he hc hf with ⟨h1, _⟩ | ⟨a, len', cap', zs, h1, _, hl, hm, hz, _, hcell, hwf⟩
  · simp [Value.cells] at h1
    obtain ⟨rfl, rfl, rfl⟩ := h1
    exact ⟨[], .pv _ _ (.sl [] none 0 1 (fun _ _ => undef) (Nat.le_refl _) (Nat.zero_le _) (by simp) (by simp) (by simp) (by simp)), by simp⟩
  · simp [Value.cells] at h1
    obtain ⟨rfl, rfl, rfl⟩ := h1
    simp only [if_true] at hz
    have hsp : a.spot = none := by
      simp [Value.okWide, ht, Cell.okWide, Cell.ok, World.has] at hval
      exact hval.2.2.2.1
    have hwf' : ∀ i, i < zs.length → 0 ≤ zs.getD i 0 ∧ zs.getD i 0 ≤ 255 := fun i hi => by
      have := hwf _ (List.getElem_mem hi)
      have this : 0 ≤ zs[i] ∧ zs[i] ≤ 255 := by
        simp only [Lit.wf, Bool.and_eq_true, decide_eq_true_eq] at this
        exact this
      rw [List.getD_eq_getElem?_getD, List.getElem?_eq_getElem hi, Option.getD_some]
      exact this
    let l : List UInt8 := (zs.take len).map fun n => UInt8.ofNat n.toNat
    have hll : l.length = len := by simp [l, hz]; omega
    have hgl : ∀ i, i < len → (su8 l)[i]? = some [.lit (.int .u8 (zs.getD i 0))] := fun i hi => by
      have hi' : i < zs.length := by omega
      have := hwf' i hi'
      rw [List.getD_eq_getElem?_getD, List.getElem?_eq_getElem hi', Option.getD_some] at this ⊢
      simp only [su8, l, List.map_map, List.getElem?_map, List.getElem?_take, hi, if_true, List.getElem?_eq_getElem hi', Option.map_some, Function.comp]
      have e : ((UInt8.ofNat (zs[i].toNat)).toNat : Int) = zs[i] := by
        rw [UInt8.toNat_ofNat']; omega
      rw [e]
    have hsl : (su8 l).length = len := by simp [su8, hll]
    have hat : ∀ i, i < len → ∃ ad, some a = some ad ∧ ad.block < W.heap.size ∧ ¬ img β0 [] ad.block ∧ W.cell? (at_ ad (i * 1 + 0)) = some (.int .u8 (zs.getD i 0)) := fun i hi => by
      have h := hcell i (by omega)
      have hs := World.cell?_spot h
      refine ⟨a, rfl, ?_, ?_, ?_⟩
      · have := hlt_of h
        obtain ⟨b, off, sp⟩ := a
        simp only at hsp
        subst hsp
        rw [add_plain] at this
        exact this
      · rintro (h | ⟨_, _, h, _⟩)
        · exact h
        · simp at h
      · have e : at_ a (i * 1 + 0) = a.add i := by
          obtain ⟨b, off, sp⟩ := a
          simp only at hsp
          subst hsp
          rw [add_plain]
          simp [at_]
        rw [e]; exact h
    refine ⟨l, .pv _ _ ?_, by omega⟩
    have key : RelP W (img β0 []) (.sl (su8 l)) (.slice (some a) (su8 l).length cap) := by
      refine .sl (su8 l) (some a) cap 1 (fun i _ => .int .u8 (zs.getD i 0)) (by omega) hm (fun i c hi => ?_) (fun ad had => ?_) (fun i j c d hi hj => ?_) (fun i j c d hi hj => ?_)
      · have hlt : i < len := by rw [← hsl]; exact (List.getElem?_eq_some_iff.1 hi).1
        rw [hgl i hlt] at hi; cases hi; rfl
      · cases had
        exact hsp
      · have hlt : i < len := by rw [← hsl]; exact (List.getElem?_eq_some_iff.1 hi).1
        rw [hgl i hlt] at hi; cases hi
        cases j with
        | zero => exact hat i hlt
        | succ j => simp at hj
      · have hlt : i < len := by rw [← hsl]; exact (List.getElem?_eq_some_iff.1 hi).1
        rw [hgl i hlt] at hi; cases hi
        cases j with
        | zero => simp at hj; subst hj; exact .lit _ rfl
        | succ j => simp at hj
    rw [hsl] at key
    exact key
end

structure RelOf (W : World) where
  d : DV
  v : Value
  h : RelD W β0 [] d v
theorem relL_args {W : World} (l : List (RelOf W)) : RelL W β0 [] (l.map (·.d)) (l.map (·.v)).toArray := by
  refine ⟨by simp, fun i d hi => ?_⟩
  rw [List.getElem?_map] at hi
  cases h : l[i]? with
  | none => simp [h] at hi
  | some r => simp [h] at hi; subst hi; simpa [Array.getD_eq_getD_getElem?, h] using r.h
/-- A struct or an array of whole numbers of one kind. -/
theorem arg_nums {P : Program} {r : Reach} {b0 : Nat} {W : World} {t : TypeId} {k : IntKind} {v : Value} {ts : List TypeId} (ht : (∃ fs, P.underlying t = some (.struct fs)) ∨ ∃ n e, P.underlying t = some (.array n e))
    (hc : P.cellTypes P.depth t = some ts) (hn : P.cellsOf t = ts.length) (hall : ∀ u ∈ ts, P.underlying u = some (.int k)) (hval : Value.okWide P W r b0 t v) :
    ∃ l : List Int, l.length = ts.length ∧ RelD W β0 [] (.agg (l.map fun n => .int k n)) v ∧ ∀ n ∈ l, (Lit.int k n).wf = true := by
  have h : ∃ cs, v = .agg cs ∧ cs.size = P.cellsOf t ∧ Row.okWide P W r b0 t cs := by
    rcases ht with ⟨fs, ht⟩ | ⟨n, e, ht⟩ <;> (simp only [Value.okWide, ht] at hval; exact hval)
  obtain ⟨cs, rfl, hsz, ts', hts, _, hcell⟩ := h
  rw [hc] at hts
  cases hts
  have each : ∀ i, i < cs.size → ∃ n : Int, cs[i]? = some (.int k n) ∧ (Lit.int k n).wf = true := by
    intro i hi
    obtain ⟨u, hu, hok⟩ := hcell i cs[i] (by simp [hi])
    have hm : u ∈ ts := List.mem_of_getElem? hu
    simp only [Cell.okWide, hall u hm] at hok
    generalize hx : cs[i] = x at hok
    have hx' : cs[i]? = some x := by rw [← hx]; simp [hi]
    cases x <;> simp only [Cell.ok, hall u hm] at hok
    obtain ⟨rfl, hok⟩ := hok
    exact ⟨_, hx', by simp only [Lit.wf, Bool.and_eq_true, decide_eq_true_eq]; exact hok⟩
  let f : Nat → Int := fun i => match cs[i]? with | some (.int _ n) => n | _ => 0
  have hf : ∀ i, i < cs.size → cs[i]? = some (.int k (f i)) ∧ (Lit.int k (f i)).wf = true := by
    intro i hi
    obtain ⟨n, h1, h2⟩ := each i hi
    have : f i = n := by simp only [f, h1]
    rw [this]; exact ⟨h1, h2⟩
  refine ⟨(List.range cs.size).map f, by simp [hsz, hn], .agg _ _ (by simp) (fun i d hi => ?_), fun n hn => ?_⟩
  · rw [List.getElem?_map, List.getElem?_map] at hi
    by_cases hlt : i < cs.size
    · rw [List.getElem?_range hlt] at hi
      simp at hi
      subst hi
      have e : cs.getD i undef = .int k (f i) := by rw [Array.getD_eq_getD_getElem?, (hf i hlt).1]; rfl
      rw [e]
      exact .pv _ _ (.lit _ rfl)
    · rw [List.getElem?_eq_none (by simp; omega)] at hi
      simp at hi
  · obtain ⟨i, hi, rfl⟩ := List.mem_map.1 hn
    exact (hf i (by simpa using hi)).2
theorem wf_u8 {n : Int} (h : (Lit.int .u8 n).wf = true) : 0 ≤ n ∧ n ≤ 255 := by
  simp only [Lit.wf, Bool.and_eq_true, decide_eq_true_eq] at h; exact h
theorem wf_u16 {n : Int} (h : (Lit.int .u16 n).wf = true) : 0 ≤ n ∧ n ≤ 65535 := by
  simp only [Lit.wf, Bool.and_eq_true, decide_eq_true_eq] at h; exact h
theorem wf_i64 {n : Int} (h : (Lit.int .i64 n).wf = true) : -9223372036854775808 ≤ n ∧ n ≤ 9223372036854775807 := by
  simp only [Lit.wf, Bool.and_eq_true, decide_eq_true_eq] at h; exact h
theorem len_in {n : Nat} (h : n ≤ maxLen) : n ≤ 9223372036854775807 := by unfold maxLen at h; omega
end Go.V
