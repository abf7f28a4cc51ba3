/-
  X: of a call's blocks those from a number on are read out and left behind; the others stay.
-/
import Derived.Test.YtjjjlkjhojdnnaaV2
namespace Go.V
open Go

structure FzN (n : Nat) (S S' : St) : Prop where
  nt : S'.nt = S.nt
  base : S'.base = S.base
  lo : S.base ≤ n
  hi : n ≤ S.hp.length
  hp : frzHeap n S.hp = some S'.hp
  tm : tmFz n S.hp S.tm S'.tm
theorem Sim.fzN {O : Org} {β : Map} {S S' : St} {a : Act} {w : World} {n : Nat} (h : Sim O β S a w) (g : FzN n S S') : Sim O β S' a w := by
  have one : ∀ {d : DV} {v : Value} {d' : DV}, RelD w β S.hp d v → frz n S.hp d = some d' → RelD w β S'.hp d' v ∧ HeapRel w β S'.hp ∧ S'.hp.length = n ∧ ∀ b, live β S'.hp b → live β S.hp b := by
    intro d v d' hd hf
    obtain ⟨e, hp', ⟨r1, r2⟩, k2, k3, k4, k5⟩ := vend_sound h.heap g.hi hd (R := fun e hp' => e = d' ∧ hp' = S'.hp) (by unfold VEnd; rw [hf, g.hp]; exact ⟨rfl, rfl⟩)
    subst r1 r2
    exact ⟨k2, k3, k4, k5⟩
  obtain ⟨_, k3, k4, k5⟩ := one (d := .any) (v := undef) (d' := .any) (.any _) rfl
  refine ⟨h.defers, by rw [g.nt]; exact h.size, fun t => ?_, k3, ?_, h.base.trans g.base.symm⟩
  · rcases tmFz_look g.tm t with e | e
    · rw [e]; exact .any _
    · exact (one (h.tm t) e).1
  · have ev := h.evo
    exact ⟨ev.os, ev.tape, ev.output, ev.size, by rw [k4]; have := h.base; have := g.lo; omega, ev.beta, ev.same, ev.shape, fun b hb hl => ev.im b hb (k5 b hl), ev.X⟩
end Go.V
namespace Go.V
end Go.V
namespace Go.V
theorem vslk_fz {α : Type} (e : Enc α) (l : List α) (T : TypeId) (a b : Nat) (h : a ≤ b ∧ b ≤ l.length) : vslk (some (none, T, e.sz)) (fz e l) a b = some (.pv (.sl (fz e ((l.take b).drop a)))) := by
  have h1 : fz e l = [] ∨ (fz e l)[0]?.map List.length = some e.sz := by
    cases l with
    | nil => exact .inl rfl
    | cons x r => exact .inr (fz_has e (x :: r) (by simp))
  simp only [vslk]
  rw [if_pos ⟨h.1, by rw [fz_len]; exact h.2, h1⟩, fz_take, fz_drop]
end Go.V
namespace Go.V
theorem fz_src {α : Type} (e : Enc α) (l : List α) : (fz e l = [] ∨ (fz e l)[0]?.map List.length = some e.sz) = True := by
  refine eq_true ?_
  cases l with
  | nil => exact .inl rfl
  | cons x r => exact .inr (fz_has e (x :: r) (by simp))
end Go.V

/-
  X, the last part: what the simplifier reckons with.
-/
namespace Go.V
open Go
attribute [go_sem ↓] look_cons vlook_t vlook_f vrun_nil code_skip code_region code_draw code_seq code_block code_loop code_exit code_ret onNormal_normal onNormal_ret onNormal_exit onBlock_normal onBlock_ret onBlock_exit vrun_cons run1_some runG_true runG_false run2_none run2_some run3_some runK_eq code_cond vtest_bool vbr_true vbr_false vpost_ret keep_normal keep_ret vsp_nil vsp_cons vspK_eq
attribute [go_sem] vop_move vcallee_move foot_move vop_assign vcallee_assign vop_pick vcallee_pick foot_pick vop_alloc vcallee_alloc vop_box vcallee_box vop_build vcallee_build vop_buildSlice vcallee_buildSlice vop_load vcallee_load vop_store vcallee_store vop_nilCheck vcallee_nilCheck foot_nilCheck vop_binOp vcallee_binOp foot_binOp vop_unOp vcallee_unOp vop_convert vcallee_convert vop_slice vcallee_slice vop_fieldAddr vcallee_fieldAddr foot_fieldAddr vop_indexAddr vcallee_indexAddr vop_index vcallee_index vop_extract vcallee_extract foot_load foot_call vop_builtin vcallee_builtin vcallee_value vcal_fn ptrNo_ptr conv_pv frz1_fn bin2_tmp bin2_int bin2_str bin2_ptr bin2_nil vnilT_sl vnilc_eql isNil_lit conv_own conv_ptr bi_sdata bi_ustr bin_pn bin_nn bin_pp vnil_ptr vpick_bool strip_pv strip_ptr strip_own strip_ip strip_agg strip_tup strip_fn strip_opt vstr_true optV_none optV_some pickV_bool ev_tmp ev_const ev_func ofConst_int ofConst_bool ofConst_string ofConst_slice put_some put_none at_mk fits_some fits_none guard_none guard_some vgof_bool vgof_opt vgof_skip frz_agg frz_pv frz_tup frzT_agg frzT_pv frz1_pv frz1_own allSome_nil allSome_cons frzHeap_zero res_one res_two vres_tmp vres_cell load_ptr load_ip vld_one vld_agg vldp_agg store_ptr vst_one vst_agg blk_zero blk_succ set_zero set_succ box_eq alloc_eq val1_some allOne_nil allOne_cons one_pv one_ptr one_own one_fn faddr_ptr vfap_some vpart_eq vpt_agg iaddr_sl vias_some iaddr_ptr viap_some index_agg viva_some index_str vivs_some bin_int bin_str int_add int_sub int_mul int_and int_xor int_eql int_neq int_lss int_leq int_gtr int_geq int_rem int_shr str_add str_eql str_neq un_not un_xor ext_tup len_sl vlk_sl len_own len_str vls_str bi_len bi_append ap2_slc ap2_nil len_nil sdata_nil bi_ustr0 ap2_own bi_max parts_nil parts_cons enum_nil enum_cons conv_int vci_int evG_eq vfin_some vfinK_some vfin2_some at_hp slice_pv frzHeap_one frzH1_some slice_sl_lo bin_bool vbb_eql bin_agg vba_eql pickV_f pickV_t ptrNo_tup pvs List.flatten_nil List.map_nil dcells vbuild vfill vbuildSlice slOf vsrc vbase vappend V.kill List.toList_toArray List.getElem?_cons_zero List.getElem?_cons_succ List.getElem?_nil List.length_cons List.length_nil List.map_cons List.cons_append List.nil_append List.append_nil List.take_succ_cons List.take_zero List.take_nil List.drop_succ_cons List.drop_zero List.drop_nil List.set_cons_zero List.set_cons_succ Option.map_some Option.map_none Option.bind_some Option.getD_some Bool.false_eq_true Int.toNat_natCast Nat.zero_add Nat.add_zero Nat.zero_mul Nat.mul_one Nat.one_mul decide_true decide_false true_and and_true and_self false_and and_false true_or or_true or_false or_self not_true_eq_false not_false_eq_true ne_eq Bool.not_true Bool.not_false Bool.or_true Bool.true_or Bool.or_false Bool.and_true Bool.true_and Bool.and_false Bool.false_and Bool.or_self Bool.and_self Bool.not_not b_beq_t b_beq_f cond_true cond_false Bool.cond_self beq_self_eq_true Nat.lt_irrefl Nat.le_refl vspC_true vspR_eq pick_nil pick_cons pickO_some creas_nil creas_cons creaOk_eq creaM_ptr creaM_own creaOk2_some agree_nil agree_cons agree1_some sameAt_nil sameAt_cons Op.operands frzP_own fz_len cellsU_len fz_flat RetW DV.wk DV.wk.go PV.wk wrap_i64_in dec_t dec_f int_beq_t int_beq_f int_bne_t int_bne_f Ret DV.nums DV.nums.go
end Go.V

/-
  V, part 45: lists in place: what slices.Insert, Delete and their kin write, for any elements.
-/
namespace Go.V
open Go
/-- x[:n:n] at a slice that nobody writes. -/
def vslk3 (e : Option (Option Nat × TypeId × Nat)) (xs : List (List PV)) (a b c : Nat) : Option DV :=
  match e with
  | some (none, _, sz) => if a ≤ b ∧ b = c ∧ b ≤ xs.length ∧ (xs = [] ∨ (xs[0]?.map List.length) = some sz) then some (.pv (.slc ((xs.take b).drop a))) else none
  | _ => none
theorem slice_sl_3 {P : Program} {T : TypeId} {k2 k3 : IntKind} {j m : Int} {xs : List (List PV)} (h1 : 0 ≤ j) (h2 : 0 ≤ m) : vslice P T (.pv (.sl xs)) none (some (.pv (.lit (.int k2 j)))) (some (.pv (.lit (.int k3 m)))) = vslk3 (velem P T) xs 0 j.toNat m.toNat := by
  unfold vslice vslk3
  rcases velem P T with _ | ⟨_ | n, t, sz⟩ <;> simp [slOf, loOf, hiOf, h1, h2]
theorem vslk3_fz {α : Type} (e : Enc α) (l : List α) (T : TypeId) : vslk3 (some (none, T, e.sz)) (fz e l) 0 l.length l.length = some (.pv (.slc (fz e l))) := by
  unfold vslk3
  have h := fz_src e l
  simp only [fz_len, Nat.zero_le, Nat.le_refl, h, and_self, if_true, List.drop_zero]
  rw [List.take_of_length_le (by rw [fz_len]; exact Nat.le_refl _)]
attribute [go_sem] slice_sl_3
variable {α : Type} (e : Enc α)

end Go.V

/-
  V: the checksum by polynomials over two elements: its round is linear and one to one. No program is named here.
-/
namespace Go.V

def polyB : BitVec 32 := 2197175160#32
def rb (r : BitVec 32) : BitVec 32 := (r >>> 1) ^^^ (if r.getLsbD 0 = true then polyB else 0#32)
def rbN : Nat → BitVec 32 → BitVec 32
  | 0, r => r
  | n + 1, r => rb (rbN n r)

theorem rb_xor (x y : BitVec 32) : rb (x ^^^ y) = rb x ^^^ rb y := by
  apply BitVec.eq_of_getLsbD_eq
  intro i hi
  simp only [rb, BitVec.getLsbD_xor, BitVec.getLsbD_ushiftRight]
  cases x.getLsbD 0 <;> cases y.getLsbD 0 <;> simp <;> cases x.getLsbD (1 + i) <;> cases y.getLsbD (1 + i) <;> cases polyB.getLsbD i <;> rfl

theorem rbN_xor (n : Nat) (x y : BitVec 32) : rbN n (x ^^^ y) = rbN n x ^^^ rbN n y := by
  induction n with
  | zero => rfl
  | succ n ih => simp only [rbN, ih, rb_xor]

theorem rbN_add (m n : Nat) (x : BitVec 32) : rbN (m + n) x = rbN m (rbN n x) := by
  induction m with
  | zero => simp [rbN]
  | succ m ih => rw [Nat.add_right_comm]; simp only [rbN, ih]

theorem rbN_low (n : Nat) (x : BitVec 32) (h : ∀ i, i < n → x.getLsbD i = false) : rbN n x = x >>> n := by
  induction n with
  | zero => simp [rbN]
  | succ n ih =>
    rw [rbN, ih (fun i hi => h i (by omega)), rb]
    have e : (x >>> n).getLsbD 0 = false := by rw [BitVec.getLsbD_ushiftRight]; exact h _ (by omega)
    rw [e]
    simp [BitVec.shiftRight_add]

def b32 (b : UInt8) : BitVec 32 := b.toBitVec.setWidth 32
/-- One byte. -/
def cb (r : BitVec 32) (b : UInt8) : BitVec 32 := rbN 8 (r ^^^ b32 b)
/-- Some bytes as a number, the first one lowest. -/
def le : List UInt8 → BitVec 32
  | [] => 0#32
  | b :: l => b32 b ^^^ (le l <<< 8)

theorem shl_low (x : BitVec 32) (n : Nat) (h : ∀ i, 32 - n ≤ i → x.getLsbD i = false) (hn : n ≤ 32) : rbN n (x <<< n) = x := by
  rw [rbN_low _ _ (fun i hi => by simp [BitVec.getLsbD_shiftLeft, hi])]
  apply BitVec.eq_of_getLsbD_eq
  intro i hi
  simp only [BitVec.getLsbD_ushiftRight, BitVec.getLsbD_shiftLeft]
  by_cases h1 : n + i < 32
  · simp [h1]
  · simp [h1]; rw [h i (by omega)]

/-! ### As numbers -/
theorem wrap_u32_nat (b : BitVec 32) : IntKind.u32.wrap (b.toNat : Int) = (b.toNat : Int) := by
  have := b.isLt
  simp [IntKind.wrap, IntKind.signed, IntKind.bits]; omega
theorem ofInt_nat (x : BitVec 32) : BitVec.ofInt 32 (x.toNat : Int) = x := by
  apply BitVec.eq_of_toNat_eq
  have := x.isLt
  simp
theorem xor32 (x y : BitVec 32) : bits .xor .u32 (x.toNat : Int) (y.toNat : Int) = ((x ^^^ y).toNat : Int) := by
  show IntKind.u32.wrap ((BitVec.ofInt 32 (x.toNat : Int) ^^^ BitVec.ofInt 32 (y.toNat : Int)).toNat : Int) = _
  rw [ofInt_nat, ofInt_nat, wrap_u32_nat]
theorem and32 (x y : BitVec 32) : bits .and .u32 (x.toNat : Int) (y.toNat : Int) = ((x &&& y).toNat : Int) := by
  show IntKind.u32.wrap ((BitVec.ofInt 32 (x.toNat : Int) &&& BitVec.ofInt 32 (y.toNat : Int)).toNat : Int) = _
  rw [ofInt_nat, ofInt_nat, wrap_u32_nat]
theorem shr32 (x : BitVec 32) (n : Nat) : (x.toNat : Int).fdiv (2 ^ n) = ((x >>> n).toNat : Int) := by
  have e : ((2 : Int) ^ n) = ((2 ^ n : Nat) : Int) := by rw [Int.natCast_pow]; rfl
  rw [e, Int.fdiv_eq_ediv_of_nonneg _ (Int.natCast_nonneg _), BitVec.toNat_ushiftRight, Nat.shiftRight_eq_div_pow]
  rfl
theorem b32_nat (b : UInt8) : IntKind.u32.wrap (b.toNat : Int) = ((b32 b).toNat : Int) := by
  have e : (b32 b).toNat = b.toNat := by
    have := b.toNat_lt
    simp [b32]
  rw [← e, wrap_u32_nat]
end Go.V

/-
  V, part 46: what the caller holds, weakened at a call: nil slices in its blocks become slices without elements.
-/
namespace Go.V
open Go
end Go.V

/-
  V, part 47: a block of the caller's own that is only read from now on: its address becomes one of cells that nobody writes.
-/
namespace Go.V
open Go
end Go.V

/-
  V, part 48: one state says no less than another; loops and parts with that.
-/
namespace Go.V
open Go
def SimLe (S S' : St) : Prop := ∀ (O : Org) (β : Map) (a : Act) (w : World), Sim O β S a w → ∃ β', Sim O β' S' a w
theorem SimLe.refl (S : St) : SimLe S S := fun _ β _ _ h => ⟨β, h⟩
theorem SimLe.trans {S S1 S2 : St} (h : SimLe S S1) (g : SimLe S1 S2) : SimLe S S2 := fun O β a w hs =>
  let ⟨β1, h1⟩ := h O β a w hs
  g O β1 a w h1
theorem SimLe.weak {S S' : St} (h : Weak S S') : SimLe S S' := fun _ _ _ _ hs => hs.weak h
theorem SimLe.fzN {S S' : St} {n : Nat} (h : FzN n S S') : SimLe S S' := fun _ β _ _ hs => ⟨β, hs.fzN h⟩
theorem SimLe.wk {S S' : St} (h : SimLe ⟨S.nt, S.base, tmwk S.tm, hpwk S.hp⟩ S') : SimLe S S' := fun O β a w hs => h O β a w (sim_wk hs)
theorem VWp.simLe {P : Program} {c : Code} {Q : Exit → St → Prop} {S : St} (S' : St) (g : SimLe S S') (h : VWp P c Q S') : VWp P c Q S := fun O β a w hs =>
  let ⟨β', hs'⟩ := g O β a w hs
  h O β' a w hs'
theorem VLoop.simLe {P : Program} {c : Code} {Q : Exit → St → Prop} {S : St} (S' : St) (g : SimLe S S') (h : VLoop P c Q S') : VLoop P c Q S := VWp.simLe S' g h
theorem VDraw.simLe {P : Program} {id : Nat} {ops : Array Oper} {Q : Exit → St → Prop} {S : St} (S' : St) (g : SimLe S S') (h : VDraw P id ops Q S') : VDraw P id ops Q S := VWp.simLe S' g h
/-- The first n parts of a code, and the rest. -/
def headc : Nat → Code → Code
  | n + 1, .seq a b => .seq a (headc n b)
  | _, _ => .skip
def restc : Nat → Code → Code
  | n + 1, .seq _ b => restc n b
  | _, c => c
theorem vcut {P : Program} : ∀ (n : Nat) {c : Code} {Q : Exit → St → Prop} {S : St}, vcode P (headc n c) (onNormal Q fun S' => ∃ S'', SimLe S' S'' ∧ VWp P (restc n c) Q S'') S → VWp P c Q S
  | 0, c, Q, S, h => by
    have h : ∃ S'', SimLe S S'' ∧ VWp P (restc 0 c) Q S'' := by cases c <;> exact h
    obtain ⟨S'', h1, h2⟩ := h
    cases c <;> exact VWp.simLe S'' h1 h2
  | n + 1, c, Q, S, h => by
    cases c with
    | seq a b =>
      intro O β ac w hs
      simp only [headc, vcode] at h
      refine wp_seq (wp_mono (vcode_sound a _ S h O β ac w hs) fun e a' w' hq => ?_)
      obtain ⟨β', S', hs', hq⟩ := hq
      cases e with
      | normal => exact vcut n (c := b) hq O β' a' w' hs'
      | _ => exact ⟨β', S', hs', hq⟩
    | _ =>
      obtain ⟨S'', h1, h2⟩ := (h : ∃ S'', SimLe S S'' ∧ _)
      exact VWp.simLe S'' h1 h2
theorem headc_seq {n : Nat} {a b : Code} : headc (n + 1) (.seq a b) = .seq a (headc n b) := rfl
theorem headc_zero {c : Code} : headc 0 c = .skip := by cases c <;> rfl
theorem restc_seq {n : Nat} {a b : Code} : restc (n + 1) (.seq a b) = restc n b := rfl
theorem restc_zero {c : Code} : restc 0 c = c := by cases c <;> rfl
end Go.V
