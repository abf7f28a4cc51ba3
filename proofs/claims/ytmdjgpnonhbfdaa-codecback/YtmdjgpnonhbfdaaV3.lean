/-
  V, part 18: from a law's contract to its row: arguments that are read, and what lies behind the call.
-/
import Derived.Test.YtmdjgpnonhbfdaaV2
import Derived.Carry
namespace Go.V
open Go.RowKit Go.WideShapes Go.ChangeShapes

def β0 : Map := ⟨fun _ => none, fun _ => False⟩
theorem heapRel0 (w : World) : HeapRel w β0 [] := ⟨by simp, by simp, by simp, by simp, fun _ h => h.elim⟩

/-- What a law's walk says: true; and of what was there nothing has turned. -/
theorem law_walk {P : Program} {g : FuncId} {ds : List DV} {vs : Array Value} {w : World} (hb : ∃ fn, P.funcs[g]? = some fn ∧ fn.body.isNone = false) (c : VCalls P g ds [] (Ret (.bool true))) (h : RelL w β0 [] ds vs) :
    Calls P g vs w fun e w' => e = .returned (.bool true) ∧ Below w.heap.size w w' := by
  rcases c.run w β0 vs (heapRel0 w) h with ⟨_, _, _, _, h4⟩ | ⟨fn, _, _, h1, h2, _⟩
  rotate_left
  · obtain ⟨fn', k1, k2⟩ := hb
    rw [h1] at k1
    cases k1
    rw [h2] at k2
    cases k2
  refine h4.mono fun e w' ⟨v, r, h', β', he, ev, _, hr, _, _, hd⟩ => ?_
  subst hd
  obtain rfl := relD_lit hr
  exact ⟨he, ev.os, ev.tape, ev.output, ev.size, fun k hk => ev.same k hk (by rintro ⟨_, _, h, _⟩; simp at h)⟩

section
variable {H : Type} {enc : TypeId × Value → H} {P : Program}

theorem trodAll_below (hl : laidOutB P = true) {W W' : World} (hb : Below W.heap.size W W') {sp : Nat → Bool} : ∀ {ts : List TypeId} {vs : List Value} {ds : List (DataW H)} {ps : List MemPlace},
    (ts.all fun t => P.readableRec t && decide (t < P.types.size)) = true → DataW.TrodAll enc P W 0 (fun _ => true) true ts vs ds ps → (∀ x ∈ ps, x.block < W.heap.size) → (∀ x ∈ ps, sp x.block = true) → DataW.TrodAll enc P W' 0 sp true ts vs ds ps
  | [], _, _, _, _, h, _, _ => by
    obtain ⟨rfl, rfl, rfl⟩ := trodAll_nil h
    exact rfl
  | t :: ts, _, _, _, hr, h, hlt, hs => by
    obtain ⟨v, vs1, d, ds1, a, b, rfl, rfl, rfl, h1, h2⟩ := trodAll_cons h
    simp only [List.all_cons, Bool.and_eq_true, decide_eq_true_eq] at hr
    exact ⟨a, b, WideElems.Trod_stays hl hr.1.1 hr.1.2 h1 (fun x hx => hb.same (hlt x (List.mem_append_left _ hx))) (fun x hx => hs x (List.mem_append_left _ hx)),
      trodAll_below hl hb (by simpa using hr.2) h2 (fun x hx => hlt x (List.mem_append_right _ hx)) (fun x hx => hs x (List.mem_append_right _ hx)), rfl⟩

/-- The row's last step of a law. -/
theorem law_post {f : Func} {s : ChangeSpec} {apart fresh handsOn again : Bool} {W W' : World} {args : Array Value} {ds gs : List (DataW H)} {before : List MemPlace} {Tb : TypeId}
    (hW : DataW.Whole enc P f.params.toList s.vars apart W args.toList ds gs before) (hl : laidOutB P = true)
    (hts : (f.params.toList.all fun t => P.readableRec t && decide (t < P.types.size)) = true)
    (hvs : s.vars = []) (hres : f.resultTypes = #[Tb]) (hTb : P.underlying Tb = some .bool)
    (hr : (s.fn H ds).results = [.lit (.bool true)]) (ha : (s.fn H ds).args = ds) (hv : (s.fn H ds).vars = [])
    (hb : Below W.heap.size W W') : s.post enc P f apart fresh handsOn again W args (.bool true) W' := by
  have hlt : ∀ p ∈ before, p.block < W.heap.size := fun p hp => hW.lt p hp
  have hold : ∀ p ∈ before, (fun b => decide (b < W.heap.size)) p.block = true := fun p hp => by simpa using hlt p hp
  have hW2 := hW
  obtain ⟨p, q, hA, hV, hpq, hz, hn⟩ := hW2
  rw [hvs] at hV
  obtain ⟨rfl, rfl⟩ := trodVars_none hV
  have hpb : before = p := by simpa using hpq
  subst hpb
  have hargs : ∀ sp : Nat → Bool, (∀ x ∈ before, sp x.block = true) → DataW.TrodAll enc P W' 0 sp true f.params.toList args.toList (s.fn H (ds ++ [])).args before := fun sp hs => by
    rw [List.append_nil, ha]
    exact trodAll_below hl hb hts hA hlt hs
  have hres' : ∀ (b : Nat) (sp : Nat → Bool) (hd : Bool), DataW.TrodAll enc P W' b sp hd f.resultTypes.toList ((Value.bool true).resultList f.resultTypes.size) (s.fn H (ds ++ [])).results [] := fun b sp hd => by
    rw [List.append_nil, hr, hres]
    exact trodAll_mk1 (shut_bool hTb true)
  have hvars : ∀ sp : Nat → Bool, DataW.TrodVars enc P W' sp s.vars (s.fn H (ds ++ [])).vars [] := fun sp => by
    rw [List.append_nil, hv, hvs]; exact rfl
  refine ⟨ds, [], before, [], before, [], hW, hres' _ _ _, hargs _ hold, hvars _, World.keptBut_mono (fun p hp => ⟨hp, ?_⟩) (hb.frame (· ∈ before)), fun _ => ?_⟩
  · simpa using hp
  · refine ⟨ok_one hres rfl (by simp [Value.okWide, hTb, Cell.okWide, Cell.ok]), _, _, ([] ++ before) ++ [], ⟨[] ++ before, [], trodAll_append (hargs _ (fun _ _ => rfl)) (hres' _ _ _), hvars _, rfl, ?_, ?_⟩, ?_⟩
    · intro b off hp
      have hin : MemPlace.cell b off ∈ before := by simpa using hp
      rw [hb.frozen (hlt _ hin)]
      exact hz b off hin
    · intro ha
      simpa using hn ha
    · intro p hp _
      simpa using hp

/-! ### Arguments -/
theorem arg_int {r : Reach} {b0 : Nat} {W : World} {t : TypeId} {k : IntKind} {v : Value} {d : DataW H} {ps : List MemPlace} (ht : P.underlying t = some (.int k)) (hval : Value.okWide P W r b0 t v) (h : DataW.Trod enc P W 0 (fun _ => true) true t v d ps) :
    ∃ n : Int, RelD W β0 [] (.int k n) v ∧ (Lit.int k n).wf = true := by
  obtain ⟨n, rfl, _, _, hw⟩ := open_int ht hval h
  exact ⟨n, .pv _ _ (.lit _ rfl), hw⟩

theorem arg_bool {r : Reach} {b0 : Nat} {W : World} {t : TypeId} {v : Value} {d : DataW H} {ps : List MemPlace} (ht : P.underlying t = some .bool) (hval : Value.okWide P W r b0 t v) (h : DataW.Trod enc P W 0 (fun _ => true) true t v d ps) :
    ∃ b : Bool, RelD W β0 [] (.bool b) v := by
  obtain ⟨b, rfl, _, _⟩ := open_bool ht hval h
  exact ⟨b, .pv _ _ (.lit _ rfl)⟩

theorem arg_str {r : Reach} {b0 : Nat} {W : World} {t : TypeId} {v : Value} {d : DataW H} {ps : List MemPlace} (ht : P.underlying t = some .string) (hval : Value.okWide P W r b0 t v) (h : DataW.Trod enc P W 0 (fun _ => true) true t v d ps) :
    ∃ l : List UInt8, RelD W β0 [] (.pv (.str l)) v ∧ l.length ≤ maxLen := by
  obtain ⟨s, rfl, _, _, hw⟩ := ChangeMaps.open_string ht hval h
  exact ⟨s.data.toList, .pv _ _ (.str _), by simpa using hw⟩

def su8 (l : List UInt8) : List (List PV) := l.map fun b => [.lit (.int .u8 b.toNat)]

theorem hlt_of {W : World} {a : Addr} {v : Value} (h : W.cell? a = some v) : a.block < W.heap.size := by
  by_cases hb : a.block < W.heap.size
  · exact hb
  · have : W.heap[a.block]? = none := by simp; omega
    simp [World.cell?, this] at h

theorem arg_u8s {r : Reach} {b0 : Nat} {W : World} {t e : TypeId} {v : Value} {d : DataW H} {ps : List MemPlace} (ht : P.underlying t = some (.slice e)) (he : P.underlying e = some (.int .u8)) (hc : P.cellsOf e = 1)
    (hval : Value.okWide P W r b0 t v) (h : DataW.Trod enc P W 0 (fun _ => true) true t v d ps) :
    ∃ l : List UInt8, RelD W β0 [] (.pv (.sl (su8 l))) v ∧ l.length ≤ maxLen := by
  obtain ⟨a0, len, cap, rfl⟩ := okWide_slice ht hval
  obtain ⟨fuel, hf⟩ := h
  rcases open_ints ht he hc hf with ⟨h1, _⟩ | ⟨a, len', cap', zs, h1, _, hl, hm, hz, _, hcell, hwf⟩
  · simp [Value.cells] at h1
    obtain ⟨rfl, rfl, rfl⟩ := h1
    exact ⟨[], .pv _ _ (.sl [] none 0 1 (fun _ _ => undef) (Nat.le_refl _) (Nat.zero_le _) (by simp) (by simp) (by simp) (by simp)), by simp⟩
  · simp [Value.cells] at h1
    obtain ⟨rfl, rfl, rfl⟩ := h1
    simp only [if_true] at hz
    have hsp : a.spot = none := by
      simp [Value.okWide, ht, Cell.okWide, Cell.ok, World.has] at hval
      exact hval.2.2.2.1
    have hwf' : ∀ i, i < zs.length → 0 ≤ zs.getD i 0 ∧ zs.getD i 0 ≤ 255 := fun i hi => by
      have := hwf _ (List.getElem_mem hi)
      have this : 0 ≤ zs[i] ∧ zs[i] ≤ 255 := by
        simp only [Lit.wf, Bool.and_eq_true, decide_eq_true_eq] at this
        exact this
      rw [List.getD_eq_getElem?_getD, List.getElem?_eq_getElem hi, Option.getD_some]
      exact this
    let l : List UInt8 := (zs.take len).map fun n => UInt8.ofNat n.toNat
    have hll : l.length = len := by simp [l, hz]; omega
    have hgl : ∀ i, i < len → (su8 l)[i]? = some [.lit (.int .u8 (zs.getD i 0))] := fun i hi => by
      have hi' : i < zs.length := by omega
      have := hwf' i hi'
      rw [List.getD_eq_getElem?_getD, List.getElem?_eq_getElem hi', Option.getD_some] at this ⊢
      simp only [su8, l, List.map_map, List.getElem?_map, List.getElem?_take, hi, if_true, List.getElem?_eq_getElem hi', Option.map_some, Function.comp]
      have e : ((UInt8.ofNat (zs[i].toNat)).toNat : Int) = zs[i] := by
        rw [UInt8.toNat_ofNat']; omega
      rw [e]
    have hsl : (su8 l).length = len := by simp [su8, hll]
    have hat : ∀ i, i < len → ∃ ad, some a = some ad ∧ ad.block < W.heap.size ∧ ¬ img β0 [] ad.block ∧ W.cell? (at_ ad (i * 1 + 0)) = some (.int .u8 (zs.getD i 0)) := fun i hi => by
      have h := hcell i (by omega)
      have hs := World.cell?_spot h
      refine ⟨a, rfl, ?_, ?_, ?_⟩
      · have := hlt_of h
        obtain ⟨b, off, sp⟩ := a
        simp only at hsp
        subst hsp
        rw [add_plain] at this
        exact this
      · rintro (h | ⟨_, _, h, _⟩)
        · exact h
        · simp at h
      · have e : at_ a (i * 1 + 0) = a.add i := by
          obtain ⟨b, off, sp⟩ := a
          simp only at hsp
          subst hsp
          rw [add_plain]
          simp [at_]
        rw [e]; exact h
    refine ⟨l, .pv _ _ ?_, by omega⟩
    have key : RelP W (img β0 []) (.sl (su8 l)) (.slice (some a) (su8 l).length cap) := by
      refine .sl (su8 l) (some a) cap 1 (fun i _ => .int .u8 (zs.getD i 0)) (by omega) hm (fun i c hi => ?_) (fun ad had => ?_) (fun i j c d hi hj => ?_) (fun i j c d hi hj => ?_)
      · have hlt : i < len := by rw [← hsl]; exact (List.getElem?_eq_some_iff.1 hi).1
        rw [hgl i hlt] at hi; cases hi; rfl
      · cases had
        exact hsp
      · have hlt : i < len := by rw [← hsl]; exact (List.getElem?_eq_some_iff.1 hi).1
        rw [hgl i hlt] at hi; cases hi
        cases j with
        | zero => exact hat i hlt
        | succ j => simp at hj
      · have hlt : i < len := by rw [← hsl]; exact (List.getElem?_eq_some_iff.1 hi).1
        rw [hgl i hlt] at hi; cases hi
        cases j with
        | zero => simp at hj; subst hj; exact .lit _ rfl
        | succ j => simp at hj
    rw [hsl] at key
    exact key
end

structure RelOf (W : World) where
  d : DV
  v : Value
  h : RelD W β0 [] d v
theorem relL_args {W : World} (l : List (RelOf W)) : RelL W β0 [] (l.map (·.d)) (l.map (·.v)).toArray := by
  refine ⟨by simp, fun i d hi => ?_⟩
  rw [List.getElem?_map] at hi
  cases h : l[i]? with
  | none => simp [h] at hi
  | some r => simp [h] at hi; subst hi; simpa [Array.getD_eq_getD_getElem?, h] using r.h
/-- A struct or an array of whole numbers of one kind. -/
theorem arg_nums {P : Program} {r : Reach} {b0 : Nat} {W : World} {t : TypeId} {k : IntKind} {v : Value} {ts : List TypeId} (ht : (∃ fs, P.underlying t = some (.struct fs)) ∨ ∃ n e, P.underlying t = some (.array n e))
    (hc : P.cellTypes P.depth t = some ts) (hn : P.cellsOf t = ts.length) (hall : ∀ u ∈ ts, P.underlying u = some (.int k)) (hval : Value.okWide P W r b0 t v) :
    ∃ l : List Int, l.length = ts.length ∧ RelD W β0 [] (.agg (l.map fun n => .int k n)) v ∧ ∀ n ∈ l, (Lit.int k n).wf = true := by
  have h : ∃ cs, v = .agg cs ∧ cs.size = P.cellsOf t ∧ Row.okWide P W r b0 t cs := by
    rcases ht with ⟨fs, ht⟩ | ⟨n, e, ht⟩ <;> (simp only [Value.okWide, ht] at hval; exact hval)
  obtain ⟨cs, rfl, hsz, ts', hts, _, hcell⟩ := h
  rw [hc] at hts
  cases hts
  have each : ∀ i, i < cs.size → ∃ n : Int, cs[i]? = some (.int k n) ∧ (Lit.int k n).wf = true := by
    intro i hi
    obtain ⟨u, hu, hok⟩ := hcell i cs[i] (by simp [hi])
    have hm : u ∈ ts := List.mem_of_getElem? hu
    simp only [Cell.okWide, hall u hm] at hok
    generalize hx : cs[i] = x at hok
    have hx' : cs[i]? = some x := by rw [← hx]; simp [hi]
    cases x <;> simp only [Cell.ok, hall u hm] at hok
    obtain ⟨rfl, hok⟩ := hok
    exact ⟨_, hx', by simp only [Lit.wf, Bool.and_eq_true, decide_eq_true_eq]; exact hok⟩
  let f : Nat → Int := fun i => match cs[i]? with | some (.int _ n) => n | _ => 0
  have hf : ∀ i, i < cs.size → cs[i]? = some (.int k (f i)) ∧ (Lit.int k (f i)).wf = true := by
    intro i hi
    obtain ⟨n, h1, h2⟩ := each i hi
    have : f i = n := by simp only [f, h1]
    rw [this]; exact ⟨h1, h2⟩
  refine ⟨(List.range cs.size).map f, by simp [hsz, hn], .agg _ _ (by simp) (fun i d hi => ?_), fun n hn => ?_⟩
  · rw [List.getElem?_map, List.getElem?_map] at hi
    by_cases hlt : i < cs.size
    · rw [List.getElem?_range hlt] at hi
      simp at hi
      subst hi
      have e : cs.getD i undef = .int k (f i) := by rw [Array.getD_eq_getD_getElem?, (hf i hlt).1]; rfl
      rw [e]
      exact .pv _ _ (.lit _ rfl)
    · rw [List.getElem?_eq_none (by simp; omega)] at hi
      simp at hi
  · obtain ⟨i, hi, rfl⟩ := List.mem_map.1 hn
    exact (hf i (by simpa using hi)).2
theorem wf_u8 {n : Int} (h : (Lit.int .u8 n).wf = true) : 0 ≤ n ∧ n ≤ 255 := by
  simp only [Lit.wf, Bool.and_eq_true, decide_eq_true_eq] at h; exact h
theorem wf_u16 {n : Int} (h : (Lit.int .u16 n).wf = true) : 0 ≤ n ∧ n ≤ 65535 := by
  simp only [Lit.wf, Bool.and_eq_true, decide_eq_true_eq] at h; exact h
theorem wf_i64 {n : Int} (h : (Lit.int .i64 n).wf = true) : -9223372036854775808 ≤ n ∧ n ≤ 9223372036854775807 := by
  simp only [Lit.wf, Bool.and_eq_true, decide_eq_true_eq] at h; exact h
theorem len_in {n : Nat} (h : n ≤ maxLen) : n ≤ 9223372036854775807 := by unfold maxLen at h; omega
end Go.V
