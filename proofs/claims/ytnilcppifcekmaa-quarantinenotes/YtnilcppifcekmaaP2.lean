/-
  Contracts of functions and plain laws. No condition.
-/
import Derived.Test.YtnilcppifcekmaaP1
import Derived.Test.YtnilcppifcekmaaV3
set_option linter.unusedSimpArgs false
set_option linter.unusedVariables false
set_option maxRecDepth 100000
set_option maxHeartbeats 8000000
namespace Go.Proofs.Ytnilcppifcekmaa
open Go.V Go
def usedL (l : List Int) : List Bool := (List.range 64).map fun s : Nat => decide ((s : Int) ∈ l)
theorem usedL_len (l : List Int) : (usedL l).length = 64 := by simp [usedL]
theorem usedL_get (l : List Int) (s : Nat) (h : s < 64) : (cells encB (usedL l))[s]? = some (.bool (decide ((s : Int) ∈ l))) := by
  rw [cellsB_get _ _ (by rw [usedL_len]; exact h), List.getD_eq_getElem?_getD, usedL, List.getElem?_map, List.getElem?_range h]; rfl
theorem usedL_set (l : List Int) (s : Nat) : (cells encB (usedL l)).set s (.pv (.lit (.bool true))) = cells encB (usedL (l ++ [(s : Int)])) := by
  rw [cellsB_set]
  congr 1
  apply List.ext_getElem
  · simp [usedL]
  · intro k h1 h2
    rw [List.getElem_set]
    simp only [usedL, List.getElem_map, List.getElem_range, List.mem_append, List.mem_singleton]
    by_cases e : s = k
    · subst e; simp
    · rw [if_neg e]
      apply decide_eq_decide.2
      have : ¬ (k : Int) = s := by omega
      simp [this]
theorem take_succ_map (l : List Pl) (i : Nat) (h : i < l.length) : (l.take (i + 1)).map (·.ad) = (l.take i).map (·.ad) ++ [(l.getD i P0).ad] := by
  rw [List.take_succ_eq_append_getElem h, List.map_append, List.getD_eq_getElem?_getD, List.getElem?_eq_getElem h]; rfl
theorem own_succ (r : Rm) (i : Nat) (h : i < r.bad.length) : r.own (i + 1) = r.own i + (if r.bad.getD i 0 < r.pages then 1 else 0) := by
  rw [Rm.own, List.take_succ_eq_append_getElem h, List.filter_append, List.length_append, List.getD_eq_getElem?_getD, List.getElem?_eq_getElem h]
  simp only [Option.getD_some, Rm.own]
  congr 1
  by_cases hc : r.bad[i] < r.pages <;> simp [hc]
theorem own_le (r : Rm) (i : Nat) : r.own i ≤ i := by
  have := List.length_filter_le (fun x => decide (x < r.pages)) (r.bad.take i)
  rw [List.length_take] at this
  unfold Rm.own; omega
theorem qvalid_v (r : Rm) (hs : r.sm) : VCalls Try.prog 16 [.agg r.d] [] (Ret (.bool r.okB)) := by
  refine dd Try.func16 ?_
  obtain ⟨hs1, hs2⟩ := hs
  have hbc := bad_v r hs2
  obtain ⟨pages, spares, places, bad⟩ := r
  dsimp only at hs1 hs2
  by_cases h1 : pages < 1
  · have e : Rm.okB ⟨pages, spares, places, bad⟩ = false := by simp [Rm.okB, Rm.headB, show ¬ 1 ≤ pages by omega]
    rw [e]
    simp (config := { maxSteps := 2000000 }) (implicitDefEqProofs := false) (disch := first | omega | assumption | (simp only []; done) | fail) only [vop_move, vcallee_move, vop_assign, vcallee_assign, vop_pick, vcallee_pick, vop_box, vcallee_box, vop_load, vcallee_load, vop_binOp, vcallee_binOp, vop_fieldAddr, vcallee_fieldAddr, bin2_int, vpick_bool, strip_pv, strip_ptr, strip_agg, strip_tup, optV_none, ev_tmp, ev_const, ofConst_int, ofConst_bool, put_some, at_mk, fits_some, ↓look_cons, ↓vlook_t, ↓vlook_f, guard_none, guard_some, vgof_bool, ↓vrun_nil, ↓code_region, ↓code_seq, ↓code_ret, ↓onNormal_normal, ↓onNormal_ret, frz_pv, frzHeap_zero, res_one, vres_tmp, load_ptr, vld_one, blk_zero, box_eq, allOne_nil, allOne_cons, one_pv, faddr_ptr, vfap_some, bin_int, int_lss, enum_nil, enum_cons, evG_eq, ↓vrun_cons, ↓run1_some, ↓runG_true, ↓runG_false, ↓run2_none, ↓run3_some, ↓code_cond, ↓vtest_bool, ↓vbr_true, ↓vpost_ret, vfin_some, vfin2_some, at_hp, pickV_t, dcells, List.toList_toArray, List.getElem?_cons_zero, List.getElem?_cons_succ, List.length_nil, List.nil_append, Option.map_some, Option.bind_some, ↓reduceIte, reduceCtorEq, Nat.reduceLT, Nat.reduceBEq, Int.reduceLT, Int.reduceBEq, Nat.zero_add, Nat.add_zero, and_self, Bool.not_true, Bool.and_self, b_beq_f, beq_self_eq_true, Try.vt3, Try.vfield34x0, dec_t, Ret, DV.nums, Try.f16, Rm.d, h1]
  by_cases h2 : 64 < pages
  · have e : Rm.okB ⟨pages, spares, places, bad⟩ = false := by simp [Rm.okB, Rm.headB, show ¬ pages ≤ 64 by omega]
    rw [e]
    simp (config := { maxSteps := 2000000 }) (implicitDefEqProofs := false) (disch := first | omega | assumption | (simp only []; done) | fail) only [vop_move, vcallee_move, vop_assign, vcallee_assign, vop_pick, vcallee_pick, vop_box, vcallee_box, vop_load, vcallee_load, vop_binOp, vcallee_binOp, vop_fieldAddr, vcallee_fieldAddr, bin2_int, vpick_bool, strip_pv, strip_ptr, strip_agg, strip_tup, strip_opt, vstr_true, optV_none, optV_some, pickV_bool, ev_tmp, ev_const, ofConst_int, ofConst_bool, put_some, at_mk, fits_some, ↓look_cons, ↓vlook_t, ↓vlook_f, guard_none, guard_some, vgof_bool, ↓vrun_nil, ↓code_region, ↓code_seq, ↓code_ret, ↓onNormal_normal, ↓onNormal_ret, frz_pv, frzHeap_zero, res_one, vres_tmp, load_ptr, vld_one, blk_zero, box_eq, allOne_nil, allOne_cons, one_pv, faddr_ptr, vfap_some, bin_int, int_lss, int_gtr, enum_nil, enum_cons, evG_eq, ↓vrun_cons, ↓run1_some, ↓runG_true, ↓runG_false, ↓run2_none, ↓run3_some, ↓code_cond, ↓vtest_bool, ↓vbr_true, ↓vpost_ret, vfin_some, vfin2_some, at_hp, pickV_t, dcells, List.toList_toArray, List.getElem?_cons_zero, List.getElem?_cons_succ, List.length_nil, List.nil_append, Option.map_some, Option.bind_some, ↓reduceIte, reduceCtorEq, Nat.reduceLT, Nat.reduceBEq, Int.reduceLT, Int.reduceBEq, Nat.zero_add, Nat.add_zero, decide_false, and_self, or_true, Bool.not_true, Bool.not_false, Bool.or_true, Bool.and_self, b_beq_f, Bool.cond_self, beq_self_eq_true, Try.vt3, Try.vfield34x0, dec_t, Ret, DV.nums, Try.f16, Rm.d, h1, h2]
  by_cases h3 : spares < 0
  · have e : Rm.okB ⟨pages, spares, places, bad⟩ = false := by simp [Rm.okB, Rm.headB, show ¬ 0 ≤ spares by omega]
    rw [e]
    simp (config := { maxSteps := 2000000 }) (implicitDefEqProofs := false) (disch := first | omega | assumption | (simp only []; done) | fail) only [vop_move, vcallee_move, vop_assign, vcallee_assign, vop_pick, vcallee_pick, vop_box, vcallee_box, vop_load, vcallee_load, vop_binOp, vcallee_binOp, vop_fieldAddr, vcallee_fieldAddr, bin2_int, vpick_bool, strip_pv, strip_ptr, strip_agg, strip_tup, strip_opt, vstr_true, optV_none, optV_some, pickV_bool, ev_tmp, ev_const, ofConst_int, ofConst_bool, put_some, at_mk, fits_some, ↓look_cons, ↓vlook_t, ↓vlook_f, guard_none, guard_some, vgof_bool, ↓vrun_nil, ↓code_region, ↓code_seq, ↓code_ret, ↓onNormal_normal, ↓onNormal_ret, frz_pv, frzHeap_zero, res_one, vres_tmp, load_ptr, vld_one, blk_zero, box_eq, allOne_nil, allOne_cons, one_pv, faddr_ptr, vfap_some, bin_int, int_lss, int_gtr, enum_nil, enum_cons, evG_eq, ↓vrun_cons, ↓run1_some, ↓runG_true, ↓runG_false, ↓run2_none, ↓run3_some, ↓code_cond, ↓vtest_bool, ↓vbr_true, ↓vpost_ret, vfin_some, vfin2_some, at_hp, pickV_t, dcells, List.toList_toArray, List.getElem?_cons_zero, List.getElem?_cons_succ, List.length_nil, List.nil_append, Option.map_some, Option.bind_some, ↓reduceIte, reduceCtorEq, Nat.reduceLT, Nat.reduceBEq, Int.reduceLT, Int.reduceBEq, Nat.zero_add, Nat.add_zero, decide_false, and_self, or_true, Bool.not_true, Bool.not_false, Bool.or_true, Bool.and_self, b_beq_f, cond_false, Bool.cond_self, beq_self_eq_true, Try.vt3, Try.vfield34x0, Try.vfield34x1, dec_t, Ret, DV.nums, Try.f16, Rm.d, h1, h2, h3]
  by_cases h4 : 16 < spares
  · have e : Rm.okB ⟨pages, spares, places, bad⟩ = false := by simp [Rm.okB, Rm.headB, show ¬ spares ≤ 16 by omega]
    rw [e]
    simp (config := { maxSteps := 2000000 }) (implicitDefEqProofs := false) (disch := first | omega | assumption | (simp only []; done) | fail) only [vop_move, vcallee_move, vop_assign, vcallee_assign, vop_pick, vcallee_pick, vop_box, vcallee_box, vop_load, vcallee_load, vop_binOp, vcallee_binOp, vop_fieldAddr, vcallee_fieldAddr, bin2_int, vpick_bool, strip_pv, strip_ptr, strip_agg, strip_tup, strip_opt, vstr_true, optV_none, optV_some, pickV_bool, ev_tmp, ev_const, ofConst_int, ofConst_bool, put_some, at_mk, fits_some, ↓look_cons, ↓vlook_t, ↓vlook_f, guard_none, guard_some, vgof_bool, ↓vrun_nil, ↓code_region, ↓code_seq, ↓code_ret, ↓onNormal_normal, ↓onNormal_ret, frz_pv, frzHeap_zero, res_one, vres_tmp, load_ptr, vld_one, blk_zero, box_eq, allOne_nil, allOne_cons, one_pv, faddr_ptr, vfap_some, bin_int, int_lss, int_gtr, enum_nil, enum_cons, evG_eq, ↓vrun_cons, ↓run1_some, ↓runG_true, ↓runG_false, ↓run2_none, ↓run3_some, ↓code_cond, ↓vtest_bool, ↓vbr_true, ↓vpost_ret, vfin_some, vfin2_some, at_hp, pickV_t, dcells, List.toList_toArray, List.getElem?_cons_zero, List.getElem?_cons_succ, List.length_nil, List.nil_append, Option.map_some, Option.bind_some, ↓reduceIte, reduceCtorEq, Nat.reduceLT, Nat.reduceBEq, Int.reduceLT, Int.reduceBEq, Nat.zero_add, Nat.add_zero, decide_false, and_self, or_true, Bool.not_true, Bool.not_false, Bool.or_true, Bool.and_self, b_beq_f, cond_false, Bool.cond_self, beq_self_eq_true, Try.vt3, Try.vfield34x0, Try.vfield34x1, dec_t, Ret, DV.nums, Try.f16, Rm.d, h1, h2, h3, h4]
  by_cases h5 : 64 < pages + spares
  · have e : Rm.okB ⟨pages, spares, places, bad⟩ = false := by simp [Rm.okB, Rm.headB, show ¬ pages + spares ≤ 64 by omega]
    rw [e]
    simp (config := { maxSteps := 2000000 }) (implicitDefEqProofs := false) (disch := first | omega | assumption | (simp only []; done) | fail) only [vop_move, vcallee_move, vop_assign, vcallee_assign, vop_pick, vcallee_pick, vop_box, vcallee_box, vop_load, vcallee_load, vop_binOp, vcallee_binOp, vop_fieldAddr, vcallee_fieldAddr, bin2_tmp, bin2_int, vpick_bool, strip_pv, strip_ptr, strip_agg, strip_opt, vstr_true, optV_none, optV_some, pickV_bool, ev_tmp, ev_const, ofConst_int, ofConst_bool, put_some, at_mk, fits_some, ↓look_cons, ↓vlook_t, ↓vlook_f, guard_none, guard_some, vgof_bool, ↓vrun_nil, ↓code_region, ↓code_seq, ↓code_ret, ↓onNormal_normal, ↓onNormal_ret, frz_pv, frzHeap_zero, res_one, vres_tmp, load_ptr, vld_one, blk_zero, box_eq, allOne_nil, allOne_cons, one_pv, faddr_ptr, vfap_some, bin_int, int_add, int_lss, int_gtr, enum_nil, enum_cons, evG_eq, ↓vrun_cons, ↓run1_some, ↓runG_true, ↓run2_none, ↓run3_some, ↓code_cond, ↓vtest_bool, ↓vbr_true, ↓vpost_ret, vfin_some, vfin2_some, at_hp, dcells, List.toList_toArray, List.getElem?_cons_zero, List.getElem?_cons_succ, List.length_nil, List.nil_append, Option.map_some, Option.bind_some, ↓reduceIte, reduceCtorEq, Nat.reduceLT, Nat.reduceBEq, Int.reduceLT, Int.reduceBEq, Nat.zero_add, Nat.add_zero, decide_false, and_self, or_true, Bool.not_true, Bool.not_false, Bool.or_true, Bool.and_self, cond_false, Bool.cond_self, beq_self_eq_true, Try.vt3, Try.vfield34x0, Try.vfield34x1, wrap_i64_in, dec_t, Ret, DV.nums, Try.f16, Rm.d, h1, h2, h3, h4, h5]
  have hhead : Rm.headB ⟨pages, spares, places, bad⟩ = true := by simp [Rm.headB]; omega
  simp (config := { maxSteps := 2000000 }) (implicitDefEqProofs := false) (disch := first | omega | assumption | (simp only []; done) | fail) only [vop_move, vcallee_move, vop_assign, vcallee_assign, vop_pick, vcallee_pick, vop_box, vcallee_box, vop_load, vcallee_load, vop_binOp, vcallee_binOp, vop_fieldAddr, vcallee_fieldAddr, vop_builtin, vcallee_builtin, bin2_tmp, bin2_int, vpick_bool, strip_pv, strip_ptr, strip_agg, strip_opt, vstr_true, optV_none, optV_some, pickV_bool, ev_tmp, ev_const, ofConst_int, ofConst_bool, put_some, at_mk, fits_some, ↓look_cons, ↓vlook_t, ↓vlook_f, guard_none, guard_some, vgof_bool, ↓vrun_nil, ↓code_skip, ↓code_region, ↓code_seq, ↓code_block, ↓code_loop, ↓onNormal_normal, load_ptr, vld_one, blk_zero, box_eq, allOne_nil, allOne_cons, one_pv, faddr_ptr, vfap_some, bin_int, int_add, int_lss, int_gtr, len_sl, vlk_sl, bi_len, enum_nil, enum_cons, evG_eq, ↓vrun_cons, ↓run1_some, ↓runG_true, ↓run2_none, ↓run3_some, ↓code_cond, ↓vtest_bool, ↓vbr_false, at_hp, List.map_nil, dcells, List.toList_toArray, List.getElem?_cons_zero, List.getElem?_cons_succ, List.length_nil, List.map_cons, List.map_nil, List.nil_append, Option.map_some, Option.bind_some, ↓reduceIte, reduceCtorEq, Nat.reduceLT, Nat.reduceBEq, Int.reduceLT, Int.reduceBEq, Nat.zero_add, Nat.add_zero, decide_false, true_and, and_self, or_true, Bool.not_true, Bool.not_false, Bool.or_true, Bool.true_and, Bool.and_self, cond_false, beq_self_eq_true, fz_len, Try.vt3, Try.vt32, Try.vkind32, Try.vfield34x0, Try.vfield34x1, Try.vfield34x3, wrap_i64_in, dec_t, Try.f16, Rm.d, h1, h2, h3, h4, h5]
  refine vloop (fun s : OkayQ bad.length (Rm.chkB ⟨pages, spares, places, bad⟩) => ⟨154, 0, [(38, .int .i64 s.i), (37, .int .i64 bad.length), (36, .pv (.sl (fz encI bad))), (3, .int .i64 (Rm.own ⟨pages, spares, places, bad⟩ s.i)), (2, .bool false), (1, .ptr 0 0)], [⟨34, true, Rm.d ⟨pages, spares, places, bad⟩⟩]⟩) (fun s => bad.length - s.i) (OkayQ.start _ _) (by refine ⟨rfl, rfl, by simp, ?_, ?_, .inl rfl⟩ <;> (repeat' apply And.intro) <;> first | rfl | trivial) ?_
  intro s
  have hi := s.hi
  simp (config := { maxSteps := 2000000 }) (implicitDefEqProofs := false) (disch := first | omega | assumption | (simp only []; done) | fail) only [vop_binOp, vcallee_binOp, bin2_tmp, strip_pv, optV_none, ev_tmp, put_some, at_mk, fits_some, ↓look_cons, ↓vlook_t, ↓vlook_f, guard_none, ↓vrun_nil, ↓code_region, ↓code_seq, ↓onNormal_normal, bin_int, int_lss, evG_eq, ↓vrun_cons, ↓run1_some, ↓runG_true, ↓run2_none, ↓run3_some, ↓code_cond, ↓vtest_bool, Option.map_some, Nat.reduceLT, Nat.reduceBEq, Int.reduceLT, Int.reduceBEq, true_and, Bool.true_and, beq_self_eq_true, dec_t, Rm.d]
  refine vbr_split (fun hc => ?_) (fun hc => ?_) <;> simp only [decide_eq_true_eq, decide_eq_false_iff_not, Bool.or_eq_true, Bool.and_eq_true, Bool.or_eq_false_iff, Bool.and_eq_false_imp, Bool.not_eq_true', Bool.not_eq_false', beq_iff_eq, beq_eq_false_iff_ne, bne_iff_ne, bne_eq_false_iff_eq, ne_eq] at hc
  · have hlt : s.i < bad.length := by omega
    have hg := fzI_get bad s.i hlt
    have hg2 : s.i ≠ 0 → (fz encI bad)[((s.i : Int) - 1).toNat]? = some [.lit (.int .i64 (bad.getD (s.i - 1) 0))] := fun h0 => by
      rw [show ((s.i : Int) - 1).toNat = s.i - 1 by omega]; exact fzI_get bad (s.i - 1) (by omega)
    have hos := own_succ ⟨pages, spares, places, bad⟩ s.i hlt
    have hol := own_le ⟨pages, spares, places, bad⟩ s.i
    have hfail : Rm.chkB ⟨pages, spares, places, bad⟩ s.i = false → Rm.okB ⟨pages, spares, places, bad⟩ = false := fun h => by
      rw [Rm.okB, all_notQ hlt h]; simp
    dsimp only at hos
    generalize hown : Rm.own ⟨pages, spares, places, bad⟩ s.i = o at hos hol
    obtain ⟨b, hbd⟩ : ∃ b, bad.getD s.i 0 = b := ⟨_, rfl⟩
    have hchk : Rm.chkB ⟨pages, spares, places, bad⟩ s.i = (decide (0 ≤ b) && decide (b < pages + spares) && (decide (s.i = 0) || decide (bad.getD (s.i - 1) 0 < b))) := by rw [← hbd]; rfl
    rw [hbd] at hg hos
    have step : Rm.chkB ⟨pages, spares, places, bad⟩ s.i = true → ∃ t : OkayQ bad.length (Rm.chkB ⟨pages, spares, places, bad⟩), t.i = s.i + 1 ∧ Rm.own ⟨pages, spares, places, bad⟩ t.i = o + (if b < pages then 1 else 0) := fun h => ⟨s.next hlt h, rfl, hos⟩
    by_cases c0 : s.i = 0
    · have hs0 : ¬ (0 : Int) < (s.i : Int) := by omega
      have hidx : vias (some (none, 3, 1)) (fz encI bad)[((s.i : Int) - 1).toNat]? ((s.i : Int) - 1) = none := by
        rw [show ((s.i : Int) - 1).toNat = 0 by omega, fzI_get bad 0 (by omega)]; simp [vias]; omega
      by_cases c1 : b < 0
      · rw [hfail (by rw [hchk]; simp [show ¬ 0 ≤ b by omega])]
        simp (config := { maxSteps := 2000000 }) (implicitDefEqProofs := false) (disch := first | omega | assumption | (simp only [List.length_cons, List.length_nil, Nat.zero_add]; done) | fail) only [vop_move, vcallee_move, vop_assign, vcallee_assign, vop_pick, vcallee_pick, vop_load, vcallee_load, vop_binOp, vcallee_binOp, vop_indexAddr, vcallee_indexAddr, bin2_int, vpick_bool, strip_pv, strip_ip, strip_tup, optV_none, ev_tmp, ev_const, ofConst_int, ofConst_bool, put_some, at_mk, fits_some, ↓look_cons, ↓vlook_t, ↓vlook_f, guard_none, guard_some, vgof_bool, vgof_skip, ↓vrun_nil, ↓code_skip, ↓code_region, ↓code_seq, ↓code_block, ↓code_ret, ↓onNormal_normal, ↓onNormal_ret, ↓onBlock_ret, frz_pv, frzHeap_zero, res_one, vres_tmp, load_ip, vldp_one, iaddr_sl, vias_some, bin_int, int_lss, evG_eq, ↓vrun_cons, ↓run1_some, ↓runG_true, ↓runG_false, ↓run2_none, ↓run3_some, ↓code_cond, ↓vtest_bool, ↓vbr_true, ↓vpost_ret, vfin_some, vfin2_some, at_hp, pickV_t, List.getElem?_cons_zero, List.getElem?_cons_succ, Option.map_some, Option.bind_some, Nat.reduceLT, Nat.reduceBEq, Int.reduceLT, Int.reduceBEq, Int.toNat_natCast, and_self, Bool.not_true, Bool.and_self, b_beq_f, beq_self_eq_true, Try.vt3, Try.velem32, dec_t, Ret, DV.nums, hg, c1]
      by_cases c2 : pages + spares ≤ b
      · rw [hfail (by rw [hchk]; simp [show ¬ b < pages + spares by omega])]
        simp (config := { maxSteps := 2000000 }) (implicitDefEqProofs := false) (disch := first | omega | assumption | (simp only [List.length_cons, List.length_nil, Nat.zero_add]; done) | fail) only [vop_move, vcallee_move, vop_assign, vcallee_assign, vop_pick, vcallee_pick, vop_load, vcallee_load, vop_binOp, vcallee_binOp, vop_fieldAddr, vcallee_fieldAddr, vop_indexAddr, vcallee_indexAddr, bin2_tmp, bin2_int, vpick_bool, strip_pv, strip_ptr, strip_ip, strip_tup, strip_opt, vstr_true, optV_none, optV_some, pickV_bool, ev_tmp, ev_const, ofConst_int, ofConst_bool, put_some, at_mk, fits_some, ↓look_cons, ↓vlook_t, ↓vlook_f, guard_none, guard_some, vgof_bool, vgof_skip, ↓vrun_nil, ↓code_skip, ↓code_region, ↓code_seq, ↓code_block, ↓code_ret, ↓onNormal_normal, ↓onNormal_ret, ↓onBlock_ret, frz_pv, frzHeap_zero, res_one, vres_tmp, load_ptr, load_ip, vld_one, vldp_one, blk_zero, faddr_ptr, vfap_some, iaddr_sl, vias_some, bin_int, int_add, int_lss, int_geq, evG_eq, ↓vrun_cons, ↓run1_some, ↓runG_true, ↓runG_false, ↓run2_none, ↓run3_some, ↓code_cond, ↓vtest_bool, ↓vbr_true, ↓vpost_ret, vfin_some, vfin2_some, at_hp, pickV_t, List.getElem?_cons_zero, List.getElem?_cons_succ, Option.map_some, Option.bind_some, ↓reduceIte, reduceCtorEq, Nat.reduceLT, Nat.reduceBEq, Int.reduceLT, Int.reduceBEq, Int.toNat_natCast, Nat.zero_add, Nat.add_zero, decide_false, and_self, or_true, Bool.not_true, Bool.not_false, Bool.or_true, Bool.and_self, b_beq_f, Bool.cond_self, beq_self_eq_true, Try.vt3, Try.velem32, Try.vfield34x0, Try.vfield34x1, wrap_i64_in, dec_t, Ret, DV.nums, hg, c1, c2]
      obtain ⟨t, ht1, ht2⟩ := step (by rw [hchk]; simp [c0]; omega)
      by_cases c4 : b < pages
      · rw [if_pos c4] at ht2
        simp (config := { maxSteps := 2000000 }) (implicitDefEqProofs := false) (disch := first | omega | assumption | (simp only [List.length_cons, List.length_nil, Nat.zero_add]; done) | fail) only [vop_move, vcallee_move, vop_assign, vcallee_assign, vop_pick, vcallee_pick, vop_load, vcallee_load, vop_binOp, vcallee_binOp, vop_fieldAddr, vcallee_fieldAddr, vop_indexAddr, vcallee_indexAddr, bin2_tmp, bin2_int, vpick_bool, strip_pv, strip_ptr, strip_ip, strip_tup, strip_opt, vstr_true, optV_none, optV_some, pickV_bool, ev_tmp, ev_const, ofConst_int, ofConst_bool, put_some, at_mk, fits_some, ↓look_cons, ↓vlook_t, ↓vlook_f, guard_none, guard_some, vgof_bool, vgof_opt, ↓vrun_nil, ↓code_skip, ↓code_region, ↓code_seq, ↓code_block, ↓onNormal_normal, ↓onBlock_normal, load_ptr, load_ip, vld_one, vldp_one, blk_zero, faddr_ptr, vfap_some, iaddr_sl, vias_some, bin_int, int_add, int_lss, int_gtr, int_geq, evG_eq, ↓vrun_cons, ↓run1_some, ↓runG_true, ↓runG_false, ↓run2_none, ↓run3_some, ↓code_cond, ↓vtest_bool, ↓vbr_true, ↓vbr_false, at_hp, pickV_f, List.getElem?_cons_zero, List.getElem?_cons_succ, Option.map_some, Option.bind_some, ↓reduceIte, reduceCtorEq, Nat.reduceLT, Nat.reduceBEq, Int.reduceLT, Int.reduceBEq, Int.toNat_natCast, Nat.zero_add, Nat.add_zero, decide_false, true_and, and_false, or_true, Bool.not_true, Bool.not_false, Bool.or_true, Bool.true_and, Bool.and_false, b_beq_t, cond_false, beq_self_eq_true, Try.vt3, Try.velem32, Try.vfield34x0, Try.vfield34x1, wrap_i64_in, dec_t, hg, hs0, c1, c2, c4]
        refine ⟨t, by rw [ht1]; omega, ?_⟩
        rw [ht2, ht1]
        exact (by refine ⟨rfl, rfl, by simp, ?_, ?_, .inl rfl⟩ <;> (repeat' apply And.intro) <;> first | rfl | trivial)
      · rw [if_neg c4] at ht2
        simp (config := { maxSteps := 2000000 }) (implicitDefEqProofs := false) (disch := first | omega | assumption | (simp only [List.length_cons, List.length_nil, Nat.zero_add]; done) | fail) only [vop_move, vcallee_move, vop_assign, vcallee_assign, vop_pick, vcallee_pick, vop_load, vcallee_load, vop_binOp, vcallee_binOp, vop_fieldAddr, vcallee_fieldAddr, vop_indexAddr, vcallee_indexAddr, bin2_tmp, bin2_int, vpick_bool, strip_pv, strip_ptr, strip_ip, strip_tup, strip_opt, vstr_true, optV_none, optV_some, pickV_bool, ev_tmp, ev_const, ofConst_int, ofConst_bool, put_some, at_mk, fits_some, ↓look_cons, ↓vlook_t, ↓vlook_f, guard_none, guard_some, vgof_bool, vgof_opt, ↓vrun_nil, ↓code_skip, ↓code_region, ↓code_seq, ↓code_block, ↓onNormal_normal, ↓onBlock_normal, load_ptr, load_ip, vld_one, vldp_one, blk_zero, faddr_ptr, vfap_some, iaddr_sl, vias_some, bin_int, int_add, int_lss, int_gtr, int_geq, evG_eq, ↓vrun_cons, ↓run1_some, ↓runG_true, ↓runG_false, ↓run2_none, ↓run3_some, ↓code_cond, ↓vtest_bool, ↓vbr_false, at_hp, pickV_f, List.getElem?_cons_zero, List.getElem?_cons_succ, Option.map_some, Option.bind_some, ↓reduceIte, reduceCtorEq, Nat.reduceLT, Nat.reduceBEq, Int.reduceLT, Int.reduceBEq, Int.toNat_natCast, Nat.zero_add, Nat.add_zero, decide_false, true_and, and_false, or_true, Bool.not_true, Bool.not_false, Bool.or_true, Bool.true_and, Bool.and_false, b_beq_t, cond_false, beq_self_eq_true, Try.vt3, Try.velem32, Try.vfield34x0, Try.vfield34x1, wrap_i64_in, dec_t, hg, hs0, c1, c2, c4]
        refine ⟨t, by rw [ht1]; omega, ?_⟩
        rw [ht2, ht1]
        exact (by refine ⟨rfl, rfl, by simp, ?_, ?_, .inl rfl⟩ <;> (repeat' apply And.intro) <;> first | rfl | trivial)
    · have hs0 : (0 : Int) < (s.i : Int) := by omega
      obtain ⟨q, hq⟩ : ∃ q, bad.getD (s.i - 1) 0 = q := ⟨_, rfl⟩
      have hidx : vias (some (none, 3, 1)) (fz encI bad)[((s.i : Int) - 1).toNat]? ((s.i : Int) - 1) = some (.ip [.lit (.int .i64 q)]) := by
        rw [hg2 c0, hq]; simp [vias]; omega
      rw [hq] at hchk
      by_cases c1 : b < 0
      · rw [hfail (by rw [hchk]; simp [show ¬ 0 ≤ b by omega])]
        simp (config := { maxSteps := 2000000 }) (implicitDefEqProofs := false) (disch := first | omega | assumption | (simp only [List.length_cons, List.length_nil, Nat.zero_add]; done) | fail) only [vop_move, vcallee_move, vop_assign, vcallee_assign, vop_pick, vcallee_pick, vop_load, vcallee_load, vop_binOp, vcallee_binOp, vop_indexAddr, vcallee_indexAddr, bin2_int, vpick_bool, strip_pv, strip_ip, strip_tup, optV_none, ev_tmp, ev_const, ofConst_int, ofConst_bool, put_some, at_mk, fits_some, ↓look_cons, ↓vlook_t, ↓vlook_f, guard_none, guard_some, vgof_bool, vgof_skip, ↓vrun_nil, ↓code_skip, ↓code_region, ↓code_seq, ↓code_block, ↓code_ret, ↓onNormal_normal, ↓onNormal_ret, ↓onBlock_ret, frz_pv, frzHeap_zero, res_one, vres_tmp, load_ip, vldp_one, iaddr_sl, vias_some, bin_int, int_lss, evG_eq, ↓vrun_cons, ↓run1_some, ↓runG_true, ↓runG_false, ↓run2_none, ↓run3_some, ↓code_cond, ↓vtest_bool, ↓vbr_true, ↓vpost_ret, vfin_some, vfin2_some, at_hp, pickV_t, List.getElem?_cons_zero, List.getElem?_cons_succ, Option.map_some, Option.bind_some, Nat.reduceLT, Nat.reduceBEq, Int.reduceLT, Int.reduceBEq, Int.toNat_natCast, and_self, Bool.not_true, Bool.and_self, b_beq_f, beq_self_eq_true, Try.vt3, Try.velem32, dec_t, Ret, DV.nums, hg, c1]
      by_cases c2 : pages + spares ≤ b
      · rw [hfail (by rw [hchk]; simp [show ¬ b < pages + spares by omega])]
        simp (config := { maxSteps := 2000000 }) (implicitDefEqProofs := false) (disch := first | omega | assumption | (simp only [List.length_cons, List.length_nil, Nat.zero_add]; done) | fail) only [vop_move, vcallee_move, vop_assign, vcallee_assign, vop_pick, vcallee_pick, vop_load, vcallee_load, vop_binOp, vcallee_binOp, vop_fieldAddr, vcallee_fieldAddr, vop_indexAddr, vcallee_indexAddr, bin2_tmp, bin2_int, vpick_bool, strip_pv, strip_ptr, strip_ip, strip_tup, strip_opt, vstr_true, optV_none, optV_some, pickV_bool, ev_tmp, ev_const, ofConst_int, ofConst_bool, put_some, at_mk, fits_some, ↓look_cons, ↓vlook_t, ↓vlook_f, guard_none, guard_some, vgof_bool, vgof_skip, ↓vrun_nil, ↓code_skip, ↓code_region, ↓code_seq, ↓code_block, ↓code_ret, ↓onNormal_normal, ↓onNormal_ret, ↓onBlock_ret, frz_pv, frzHeap_zero, res_one, vres_tmp, load_ptr, load_ip, vld_one, vldp_one, blk_zero, faddr_ptr, vfap_some, iaddr_sl, vias_some, bin_int, int_add, int_lss, int_geq, evG_eq, ↓vrun_cons, ↓run1_some, ↓runG_true, ↓runG_false, ↓run2_none, ↓run3_some, ↓code_cond, ↓vtest_bool, ↓vbr_true, ↓vpost_ret, vfin_some, vfin2_some, at_hp, pickV_t, List.getElem?_cons_zero, List.getElem?_cons_succ, Option.map_some, Option.bind_some, ↓reduceIte, reduceCtorEq, Nat.reduceLT, Nat.reduceBEq, Int.reduceLT, Int.reduceBEq, Int.toNat_natCast, Nat.zero_add, Nat.add_zero, decide_false, and_self, or_true, Bool.not_true, Bool.not_false, Bool.or_true, Bool.and_self, b_beq_f, Bool.cond_self, beq_self_eq_true, Try.vt3, Try.velem32, Try.vfield34x0, Try.vfield34x1, wrap_i64_in, dec_t, Ret, DV.nums, hg, c1, c2]
      by_cases c3 : b ≤ q
      · rw [hfail (by rw [hchk]; simp [c0]; omega)]
        simp (config := { maxSteps := 2000000 }) (implicitDefEqProofs := false) (disch := first | omega | assumption | (simp only [List.length_cons, List.length_nil, Nat.zero_add]; done) | fail) only [vop_move, vcallee_move, vop_assign, vcallee_assign, vop_pick, vcallee_pick, vop_load, vcallee_load, vop_binOp, vcallee_binOp, vop_fieldAddr, vcallee_fieldAddr, vop_indexAddr, vcallee_indexAddr, bin2_tmp, bin2_int, vpick_bool, strip_pv, strip_ptr, strip_ip, strip_opt, vstr_true, optV_none, optV_some, pickV_bool, ev_tmp, ev_const, ofConst_int, ofConst_bool, put_some, at_mk, fits_some, ↓look_cons, ↓vlook_t, ↓vlook_f, guard_none, guard_some, vgof_bool, vgof_opt, ↓vrun_nil, ↓code_skip, ↓code_region, ↓code_seq, ↓code_block, ↓code_ret, ↓onNormal_normal, ↓onNormal_ret, ↓onBlock_ret, frz_pv, frzHeap_zero, res_one, vres_tmp, load_ptr, load_ip, vld_one, vldp_one, blk_zero, faddr_ptr, vfap_some, iaddr_sl, vias_some, bin_int, int_add, int_sub, int_lss, int_gtr, int_geq, evG_eq, ↓vrun_cons, ↓run1_some, ↓runG_true, ↓run2_none, ↓run3_some, ↓code_cond, ↓vtest_bool, ↓vbr_true, ↓vpost_ret, vfin_some, vfin2_some, at_hp, List.getElem?_cons_zero, List.getElem?_cons_succ, Option.map_some, Option.bind_some, ↓reduceIte, reduceCtorEq, Nat.reduceLT, Nat.reduceBEq, Int.reduceLT, Int.reduceBEq, Int.toNat_natCast, Nat.zero_add, Nat.add_zero, decide_false, and_self, or_true, Bool.not_true, Bool.not_false, Bool.or_true, Bool.and_self, cond_true, cond_false, Bool.cond_self, beq_self_eq_true, Try.vt3, Try.vt32, Try.velem32, Try.vfield34x0, Try.vfield34x1, Try.vfield34x3, wrap_i64_in, dec_t, Ret, DV.nums, hg, hidx, hs0, c1, c2, c3]
      obtain ⟨t, ht1, ht2⟩ := step (by rw [hchk]; simp [c0]; omega)
      by_cases c4 : b < pages
      · rw [if_pos c4] at ht2
        simp (config := { maxSteps := 2000000 }) (implicitDefEqProofs := false) (disch := first | omega | assumption | (simp only [List.length_cons, List.length_nil, Nat.zero_add]; done) | fail) only [vop_move, vcallee_move, vop_assign, vcallee_assign, vop_pick, vcallee_pick, vop_load, vcallee_load, vop_binOp, vcallee_binOp, vop_fieldAddr, vcallee_fieldAddr, vop_indexAddr, vcallee_indexAddr, bin2_tmp, bin2_int, vpick_bool, strip_pv, strip_ptr, strip_ip, strip_opt, vstr_true, optV_none, optV_some, pickV_bool, ev_tmp, ev_const, ofConst_int, ofConst_bool, put_some, at_mk, fits_some, ↓look_cons, ↓vlook_t, ↓vlook_f, guard_none, guard_some, vgof_bool, vgof_opt, ↓vrun_nil, ↓code_skip, ↓code_region, ↓code_seq, ↓code_block, ↓onNormal_normal, ↓onBlock_normal, load_ptr, load_ip, vld_one, vldp_one, blk_zero, faddr_ptr, vfap_some, iaddr_sl, vias_some, bin_int, int_add, int_sub, int_lss, int_gtr, int_geq, evG_eq, ↓vrun_cons, ↓run1_some, ↓runG_true, ↓run2_none, ↓run3_some, ↓code_cond, ↓vtest_bool, ↓vbr_true, ↓vbr_false, at_hp, List.getElem?_cons_zero, List.getElem?_cons_succ, Option.map_some, Option.bind_some, ↓reduceIte, reduceCtorEq, Nat.reduceLT, Nat.reduceBEq, Int.reduceLT, Int.reduceBEq, Int.toNat_natCast, Nat.zero_add, Nat.add_zero, decide_false, true_and, and_self, or_true, Bool.not_true, Bool.not_false, Bool.or_true, Bool.true_and, Bool.and_self, cond_false, Bool.cond_self, beq_self_eq_true, Try.vt3, Try.vt32, Try.velem32, Try.vfield34x0, Try.vfield34x1, Try.vfield34x3, wrap_i64_in, dec_t, hg, hidx, hs0, c1, c2, c3, c4]
        refine ⟨t, by rw [ht1]; omega, ?_⟩
        rw [ht2, ht1]
        exact (by refine ⟨rfl, rfl, by simp, ?_, ?_, .inl rfl⟩ <;> (repeat' apply And.intro) <;> first | rfl | trivial)
      · rw [if_neg c4] at ht2
        simp (config := { maxSteps := 2000000 }) (implicitDefEqProofs := false) (disch := first | omega | assumption | (simp only [List.length_cons, List.length_nil, Nat.zero_add]; done) | fail) only [vop_move, vcallee_move, vop_assign, vcallee_assign, vop_pick, vcallee_pick, vop_load, vcallee_load, vop_binOp, vcallee_binOp, vop_fieldAddr, vcallee_fieldAddr, vop_indexAddr, vcallee_indexAddr, bin2_tmp, bin2_int, vpick_bool, strip_pv, strip_ptr, strip_ip, strip_opt, vstr_true, optV_none, optV_some, pickV_bool, ev_tmp, ev_const, ofConst_int, ofConst_bool, put_some, at_mk, fits_some, ↓look_cons, ↓vlook_t, ↓vlook_f, guard_none, guard_some, vgof_bool, vgof_opt, ↓vrun_nil, ↓code_skip, ↓code_region, ↓code_seq, ↓code_block, ↓onNormal_normal, ↓onBlock_normal, load_ptr, load_ip, vld_one, vldp_one, blk_zero, faddr_ptr, vfap_some, iaddr_sl, vias_some, bin_int, int_add, int_sub, int_lss, int_gtr, int_geq, evG_eq, ↓vrun_cons, ↓run1_some, ↓runG_true, ↓run2_none, ↓run3_some, ↓code_cond, ↓vtest_bool, ↓vbr_false, at_hp, List.getElem?_cons_zero, List.getElem?_cons_succ, Option.map_some, Option.bind_some, ↓reduceIte, reduceCtorEq, Nat.reduceLT, Nat.reduceBEq, Int.reduceLT, Int.reduceBEq, Int.toNat_natCast, Nat.zero_add, Nat.add_zero, decide_false, true_and, and_self, or_true, Bool.not_true, Bool.not_false, Bool.or_true, Bool.true_and, Bool.and_self, cond_false, Bool.cond_self, beq_self_eq_true, Try.vt3, Try.vt32, Try.velem32, Try.vfield34x0, Try.vfield34x1, Try.vfield34x3, wrap_i64_in, dec_t, hg, hidx, hs0, c1, c2, c3, c4]
        refine ⟨t, by rw [ht1]; omega, ?_⟩
        rw [ht2, ht1]
        exact (by refine ⟨rfl, rfl, by simp, ?_, ?_, .inl rfl⟩ <;> (repeat' apply And.intro) <;> first | rfl | trivial)
  · have hallB := s.all (by omega)
    have hasc := bad_asc ⟨pages, spares, places, bad⟩ hallB
    have hbc := hbc hasc
    obtain ⟨n, hn⟩ : ∃ n, Rm.own ⟨pages, spares, places, bad⟩ s.i = n := ⟨_, rfl⟩
    have hsi : s.i = bad.length := by omega
    rw [hn]
    rw [hsi] at hn
    simp (config := { maxSteps := 2000000 }) (implicitDefEqProofs := false) (disch := first | omega | assumption | (simp only []; done) | fail) only [vop_move, vcallee_move, vop_alloc, vcallee_alloc, vop_load, vcallee_load, vop_fieldAddr, vcallee_fieldAddr, vop_builtin, vcallee_builtin, strip_pv, strip_ptr, optV_none, ev_tmp, ev_const, ofConst_int, put_some, at_mk, fits_some, ↓look_cons, ↓vlook_t, ↓vlook_f, guard_none, ↓vrun_nil, ↓code_region, ↓code_seq, ↓code_block, ↓code_loop, ↓code_exit, ↓onNormal_normal, ↓onNormal_exit, ↓onBlock_exit, load_ptr, vld_one, blk_zero, alloc_eq, val1_some, allOne_nil, allOne_cons, one_pv, faddr_ptr, vfap_some, len_sl, vlk_sl, bi_len, evG_eq, ↓vrun_cons, ↓run1_some, ↓runG_true, ↓run2_none, ↓run3_some, at_hp, List.map_nil, List.getElem?_cons_zero, List.getElem?_cons_succ, List.length_cons, List.length_nil, List.map_cons, List.map_nil, List.cons_append, List.nil_append, Option.map_some, ↓reduceIte, reduceCtorEq, Nat.reduceLT, Nat.reduceBEq, Int.reduceLT, Int.reduceBEq, Nat.zero_add, true_and, and_self, Bool.true_and, Bool.and_self, beq_self_eq_true, fz_len, Try.vt31, Try.vkind31, Try.vfield34x2, Try.vzero72, dec_t, dec_f]
    have zz : True := trivial
    refine vloopW (fun s : OkayQ places.length (Rm.chkP ⟨pages, spares, places, bad⟩) => ⟨154, 0, [(78, .int .i64 s.i), (77, .int .i64 places.length), (76, .pv (.sl (fz encP places))), (6, .ptr 1 0), (3, .int .i64 n), (2, .bool false), (1, .ptr 0 0)], [⟨34, true, Rm.d ⟨pages, spares, places, bad⟩⟩, ⟨72, true, cells encB (usedL ((places.take s.i).map (·.ad)))⟩]⟩) (fun s => places.length - s.i) (OkayQ.start _ _) (.inl (by refine ⟨rfl, rfl, by simp, ?_, ?_, .inr ⟨?_, ?_⟩⟩ <;> (repeat' apply And.intro) <;> first | rfl | trivial | (intro _; first | rfl | apply cells_refs))) ?_
    intro s2
    have hi2 := s2.hi
    simp (config := { maxSteps := 2000000 }) (implicitDefEqProofs := false) (disch := first | omega | assumption) only [vop_binOp, vcallee_binOp, bin2_tmp, strip_pv, optV_none, ev_tmp, put_some, at_mk, fits_some, ↓look_cons, ↓vlook_t, ↓vlook_f, guard_none, ↓vrun_nil, ↓code_region, ↓code_seq, ↓onNormal_normal, bin_int, int_lss, evG_eq, ↓vrun_cons, ↓run1_some, ↓runG_true, ↓run2_none, ↓run3_some, ↓code_cond, ↓vtest_bool, Option.map_some, Nat.reduceLT, Nat.reduceBEq, Int.reduceLT, Int.reduceBEq, true_and, Bool.true_and, beq_self_eq_true, dec_t, Rm.d]
    refine vbr_split (fun hc2 => ?_) (fun hc2 => ?_) <;> simp only [decide_eq_true_eq, decide_eq_false_iff_not, Bool.or_eq_true, Bool.and_eq_true, Bool.or_eq_false_iff, Bool.and_eq_false_imp, Bool.not_eq_true', Bool.not_eq_false', beq_iff_eq, beq_eq_false_iff_ne, bne_iff_ne, bne_eq_false_iff_eq, ne_eq] at hc2
    · have hlt : s2.i < places.length := by omega
      have hfail : Rm.chkP ⟨pages, spares, places, bad⟩ s2.i = false → Rm.okB ⟨pages, spares, places, bad⟩ = false := fun h => by
        rw [Rm.okB, all_notQ (c := Rm.chkP ⟨pages, spares, places, bad⟩) hlt h]; simp
      obtain ⟨p, hp⟩ : ∃ p, places.getD s2.i P0 = p := ⟨_, rfl⟩
      have hg : (fz encP places)[s2.i]? = some [.lit (.int .i64 p.pg), .lit (.int .i64 p.ad)] := by
        rw [← hp, List.getD_eq_getElem?_getD, List.getElem?_eq_getElem hlt]; exact fz_at encP places s2.i hlt
      have htk := take_succ_map places s2.i hlt
      rw [hp] at htk
      obtain ⟨u, hu⟩ : ∃ u, (places.take s2.i).map (·.ad) = u := ⟨_, rfl⟩
      have hchk : Rm.chkP ⟨pages, spares, places, bad⟩ s2.i = (decide (0 ≤ p.pg) && decide (p.pg < pages) && (decide (s2.i = 0) || decide ((places.getD (s2.i - 1) P0).pg < p.pg)) && decide (p.pg ∈ bad) && decide (pages ≤ p.ad) && decide (p.ad < pages + spares) && !decide (p.ad ∈ bad) && !decide (p.ad ∈ u)) := by rw [← hp, ← hu]; rfl
      rw [hu] at htk
      rw [hu]
      have step : Rm.chkP ⟨pages, spares, places, bad⟩ s2.i = true → ∃ t : OkayQ places.length (Rm.chkP ⟨pages, spares, places, bad⟩), t.i = s2.i + 1 := fun h => ⟨s2.next hlt h, rfl⟩
      have hb1 := hbc p.pg
      have hb2 := hbc p.ad
      dsimp only at hb1 hb2
      obtain ⟨pg, ad⟩ := p
      dsimp only at hg htk hchk hb1 hb2
      by_cases c0 : s2.i = 0
      · have hs0 : ¬ (0 : Int) < (s2.i : Int) := by omega
        have hidx : vias (some (none, 61, 2)) (fz encP places)[((s2.i : Int) - 1).toNat]? ((s2.i : Int) - 1) = none := by
          rw [show ((s2.i : Int) - 1).toNat = 0 by omega, fz_at encP places 0 (by omega)]; simp [vias]; omega
        by_cases d1 : pg < 0
        · rw [hfail (by rw [hchk]; simp [show ¬ 0 ≤ pg by omega])]
          simp (config := { maxSteps := 2000000 }) (implicitDefEqProofs := false) (disch := first | omega | assumption | (simp only [List.length_cons, List.length_nil, Nat.zero_add, Nat.reduceAdd]; done) | fail) only [vop_move, vcallee_move, vop_assign, vcallee_assign, vop_alloc, vcallee_alloc, vop_load, vcallee_load, vop_store, vcallee_store, vop_indexAddr, vcallee_indexAddr, strip_pv, strip_ptr, strip_ip, strip_agg, optV_none, ev_tmp, put_some, put_none, at_mk, fits_some, fits_none, ↓look_cons, ↓vlook_t, ↓vlook_f, guard_none, ↓vrun_nil, ↓code_skip, ↓code_region, ↓code_draw, ↓code_seq, ↓code_block, ↓onNormal_normal, load_ip, vldp_agg, store_ptr, vst_agg, blk_zero, blk_succ, set_zero, set_succ, alloc_eq, val1_some, allOne_nil, allOne_cons, one_pv, iaddr_sl, vias_some, evG_eq, ↓vrun_cons, ↓run1_some, ↓runG_true, ↓run2_none, ↓run3_some, at_hp, List.map_nil, V.splice, List.length_cons, List.length_nil, List.map_cons, List.map_nil, List.cons_append, List.nil_append, List.append_nil, List.take_succ_cons, List.take_zero, List.take_nil, List.drop_succ_cons, List.drop_nil, Option.map_some, ↓reduceIte, Nat.reduceAdd, Nat.reduceLT, Nat.reduceBEq, Int.reduceLT, Int.reduceAdd, Int.reduceBEq, Int.toNat_natCast, Nat.zero_add, true_and, and_self, Bool.true_and, Bool.and_self, beq_self_eq_true, Nat.le_refl, Try.velem31, Try.vt61, Try.vzero61, dec_t, hg]
          refine vdraw (by kernel_rfl) (by kernel_rfl) ?_
          simp (config := { maxSteps := 2000000 }) (implicitDefEqProofs := false) (disch := first | omega | assumption) only [vop_move, vcallee_move, okKind_move, foot_move, vop_assign, vcallee_assign, okKind_assign, foot_assign, vop_pick, vcallee_pick, okKind_pick, foot_pick, vop_load, vcallee_load, okKind_load, vop_binOp, vcallee_binOp, okKind_binOp, foot_binOp, vop_fieldAddr, vcallee_fieldAddr, okKind_fieldAddr, foot_fieldAddr, foot_load, ptrNo_ptr, bin2_int, vpick_bool, strip_pv, strip_ptr, strip_tup, optV_none, ev_tmp, ev_const, ofConst_int, ofConst_bool, put_some, at_mk, fits_some, ↓look_cons, ↓vlook_t, ↓vlook_f, guard_none, guard_some, vgof_bool, vgof_skip, ↓vrun_nil, ↓vdr_nil, ↓code_region, ↓code_seq, ↓code_ret, ↓onNormal_normal, ↓onNormal_ret, ↓onBlock_ret, frz_pv, frzHeap_zero, res_one, vres_tmp, load_ptr, vld_one, blk_zero, blk_succ, faddr_ptr, vfap_some, bin_int, int_lss, okc_nil, okc_none, okc_other, evG_eq, ↓vrun_cons, ↓run1_some, ↓runG_true, ↓run2_none, ↓run3_some, ↓vdr_cons, ↓dr1_some, ↓drG_true, ↓drG_false, ↓dr2_none, ↓dr3_some, ↓code_cond, ↓vtest_bool, ↓vbr_true, ↓vpost_ret, vfin_some, vfin2_some, at_hp, pickV_t, List.getElem?_cons_zero, List.getElem?_cons_succ, List.cons_append, List.nil_append, Option.map_some, Option.bind_some, ↓reduceIte, reduceCtorEq, Nat.reduceAdd, Nat.reduceLT, Nat.reduceBEq, Int.reduceLT, Int.reduceAdd, Int.reduceBEq, Nat.zero_add, Nat.add_zero, and_self, Bool.not_true, Bool.and_self, b_beq_f, beq_self_eq_true, Try.vt3, Try.vfield61x0, dec_t, Ret, DV.nums, d1]
        by_cases d2 : pages ≤ pg
        · rw [hfail (by rw [hchk]; simp [show ¬ pg < pages by omega])]
          simp (config := { maxSteps := 2000000 }) (implicitDefEqProofs := false) (disch := first | omega | assumption | (simp only [List.length_cons, List.length_nil, Nat.zero_add, Nat.reduceAdd]; done) | fail) only [vop_move, vcallee_move, vop_assign, vcallee_assign, vop_alloc, vcallee_alloc, vop_load, vcallee_load, vop_store, vcallee_store, vop_indexAddr, vcallee_indexAddr, strip_pv, strip_ptr, strip_ip, strip_agg, optV_none, ev_tmp, put_some, put_none, at_mk, fits_some, fits_none, ↓look_cons, ↓vlook_t, ↓vlook_f, guard_none, ↓vrun_nil, ↓code_skip, ↓code_region, ↓code_draw, ↓code_seq, ↓code_block, ↓onNormal_normal, load_ip, vldp_agg, store_ptr, vst_agg, blk_zero, blk_succ, set_zero, set_succ, alloc_eq, val1_some, allOne_nil, allOne_cons, one_pv, iaddr_sl, vias_some, evG_eq, ↓vrun_cons, ↓run1_some, ↓runG_true, ↓run2_none, ↓run3_some, at_hp, List.map_nil, V.splice, List.length_cons, List.length_nil, List.map_cons, List.map_nil, List.cons_append, List.nil_append, List.append_nil, List.take_succ_cons, List.take_zero, List.take_nil, List.drop_succ_cons, List.drop_nil, Option.map_some, ↓reduceIte, Nat.reduceAdd, Nat.reduceLT, Nat.reduceBEq, Int.reduceLT, Int.reduceAdd, Int.reduceBEq, Int.toNat_natCast, Nat.zero_add, true_and, and_self, Bool.true_and, Bool.and_self, beq_self_eq_true, Nat.le_refl, Try.velem31, Try.vt61, Try.vzero61, dec_t, hg]
          refine vdraw (by kernel_rfl) (by kernel_rfl) ?_
          simp (config := { maxSteps := 2000000 }) (implicitDefEqProofs := false) (disch := first | omega | assumption) only [vop_move, vcallee_move, okKind_move, foot_move, vop_assign, vcallee_assign, okKind_assign, foot_assign, vop_pick, vcallee_pick, okKind_pick, foot_pick, vop_load, vcallee_load, okKind_load, vop_binOp, vcallee_binOp, okKind_binOp, foot_binOp, vop_fieldAddr, vcallee_fieldAddr, okKind_fieldAddr, foot_fieldAddr, foot_load, ptrNo_ptr, bin2_tmp, bin2_int, vpick_bool, strip_pv, strip_ptr, strip_tup, strip_opt, vstr_true, optV_none, optV_some, pickV_bool, ev_tmp, ev_const, ofConst_int, ofConst_bool, put_some, at_mk, fits_some, ↓look_cons, ↓vlook_t, ↓vlook_f, guard_none, guard_some, vgof_bool, vgof_skip, ↓vrun_nil, ↓vdr_nil, ↓code_region, ↓code_seq, ↓code_ret, ↓onNormal_normal, ↓onNormal_ret, ↓onBlock_ret, frz_pv, frzHeap_zero, res_one, vres_tmp, load_ptr, vld_one, blk_zero, blk_succ, faddr_ptr, vfap_some, bin_int, int_lss, int_geq, okc_nil, okc_none, okc_other, okc_one, evG_eq, ↓vrun_cons, ↓run1_some, ↓runG_true, ↓run2_none, ↓run3_some, ↓vdr_cons, ↓dr1_some, ↓drG_true, ↓drG_false, ↓dr2_none, ↓dr3_some, ↓code_cond, ↓vtest_bool, ↓vbr_true, ↓vpost_ret, vfin_some, vfin2_some, at_hp, pickV_t, List.getElem?_cons_zero, List.getElem?_cons_succ, List.cons_append, List.nil_append, List.any_nil, List.any_cons, Option.map_some, Option.bind_some, ↓reduceIte, reduceCtorEq, Nat.reduceAdd, Nat.reduceLT, Nat.reduceBEq, Int.reduceLT, Int.reduceAdd, Int.reduceBEq, Nat.zero_add, Nat.add_zero, decide_false, and_true, and_self, and_false, or_true, or_false, or_self, Bool.not_true, Bool.not_false, Bool.or_true, Bool.or_false, Bool.and_true, Bool.and_false, Bool.or_self, Bool.and_self, b_beq_f, Bool.cond_self, beq_self_eq_true, Try.vt3, Try.vfield34x0, Try.vfield61x0, dec_t, Ret, DV.nums, d1, d2]
        by_cases d4 : pg ∈ bad
        case neg =>
          rw [hfail (by rw [hchk]; simp [d4])]
          simp (config := { maxSteps := 2000000 }) (implicitDefEqProofs := false) (disch := first | omega | assumption | (simp only [List.length_cons, List.length_nil, Nat.zero_add, Nat.reduceAdd]; done) | fail) only [vop_move, vcallee_move, vop_assign, vcallee_assign, vop_alloc, vcallee_alloc, vop_load, vcallee_load, vop_store, vcallee_store, vop_indexAddr, vcallee_indexAddr, strip_pv, strip_ptr, strip_ip, strip_agg, optV_none, ev_tmp, put_some, put_none, at_mk, fits_some, fits_none, ↓look_cons, ↓vlook_t, ↓vlook_f, guard_none, ↓vrun_nil, ↓code_skip, ↓code_region, ↓code_draw, ↓code_seq, ↓code_block, ↓onNormal_normal, load_ip, vldp_agg, store_ptr, vst_agg, blk_zero, blk_succ, set_zero, set_succ, alloc_eq, val1_some, allOne_nil, allOne_cons, one_pv, iaddr_sl, vias_some, evG_eq, ↓vrun_cons, ↓run1_some, ↓runG_true, ↓run2_none, ↓run3_some, at_hp, List.map_nil, V.splice, List.length_cons, List.length_nil, List.map_cons, List.map_nil, List.cons_append, List.nil_append, List.append_nil, List.take_succ_cons, List.take_zero, List.take_nil, List.drop_succ_cons, List.drop_nil, Option.map_some, ↓reduceIte, Nat.reduceAdd, Nat.reduceLT, Nat.reduceBEq, Int.reduceLT, Int.reduceAdd, Int.reduceBEq, Int.toNat_natCast, Nat.zero_add, true_and, and_self, Bool.true_and, Bool.and_self, beq_self_eq_true, Nat.le_refl, Try.velem31, Try.vt61, Try.vzero61, dec_t, hg]
          refine vdraw (by kernel_rfl) (by kernel_rfl) ?_
          simp (config := { maxSteps := 2000000 }) (implicitDefEqProofs := false) (disch := first | omega | assumption) only [vop_move, vcallee_move, okKind_move, foot_move, vop_pick, vcallee_pick, okKind_pick, foot_pick, vop_load, vcallee_load, okKind_load, vop_binOp, vcallee_binOp, okKind_binOp, foot_binOp, vop_fieldAddr, vcallee_fieldAddr, okKind_fieldAddr, foot_fieldAddr, foot_load, vcallee_value, vcal_fn, ptrNo_ptr, bin2_tmp, bin2_int, vpick_bool, strip_pv, strip_ptr, strip_tup, strip_fn, strip_opt, vstr_true, optV_none, optV_some, pickV_bool, ev_tmp, ev_const, ev_func, ofConst_int, ofConst_bool, put_some, at_mk, fits_some, ↓look_cons, ↓vlook_t, ↓vlook_f, guard_none, guard_some, vgof_bool, vgof_opt, load_ptr, vld_one, vld_agg, blk_zero, blk_succ, faddr_ptr, vfap_some, bin_int, int_lss, int_gtr, int_geq, okc_nil, okc_none, okc_other, okc_one, evG_eq, ↓vdr_cons, ↓dr1_some, ↓drG_true, ↓drG_false, ↓dr2_none, ↓dr2_some, ↓dr3_some, at_hp, pickV_f, List.map_nil, List.getElem?_cons_zero, List.getElem?_cons_succ, List.length_cons, List.length_nil, List.map_cons, List.map_nil, List.cons_append, List.nil_append, List.append_nil, List.take_succ_cons, List.take_nil, List.drop_zero, List.any_nil, List.any_cons, Option.map_some, Option.bind_some, ↓reduceIte, reduceCtorEq, Nat.reduceAdd, Nat.reduceLT, Nat.reduceBEq, Int.reduceLT, Int.reduceAdd, Int.reduceBEq, Nat.zero_add, Nat.add_zero, decide_false, true_and, and_true, and_self, and_false, or_true, or_false, or_self, Bool.not_true, Bool.not_false, Bool.or_true, Bool.or_false, Bool.and_true, Bool.true_and, Bool.and_false, Bool.or_self, Bool.and_self, b_beq_t, cond_false, beq_self_eq_true, Nat.le_refl, Try.vt3, Try.vt34, Try.vfield34x0, Try.vfield61x0, dec_t, hs0, d1, d2]
          refine vdc_call (hb1) rfl rfl ?_
          simp (config := { maxSteps := 2000000 }) (implicitDefEqProofs := false) (disch := first | omega | assumption) only [vop_assign, vcallee_assign, okKind_assign, foot_assign, vop_pick, vcallee_pick, okKind_pick, foot_pick, vop_unOp, vcallee_unOp, okKind_unOp, foot_unOp, vpick_bool, strip_pv, strip_opt, vstr_true, optV_none, optV_some, pickV_bool, ev_tmp, ev_const, ofConst_bool, put_some, at_mk, fits_some, ↓look_cons, ↓vlook_t, ↓vlook_f, guard_none, guard_some, vgof_bool, ↓vrun_nil, ↓vdr_nil, ↓code_region, ↓code_seq, ↓code_ret, ↓onNormal_normal, ↓onNormal_ret, ↓onBlock_ret, frz_pv, frzHeap_zero, res_one, vres_tmp, un_not, okc_nil, okc_none, okc_other, evG_eq, ↓vrun_cons, ↓run1_some, ↓runG_true, ↓run2_none, ↓run3_some, ↓vdr_cons, ↓dr1_some, ↓drG_true, ↓dr2_none, ↓dr3_some, ↓drK_eq, ↓code_cond, ↓vtest_bool, ↓vbr_true, ↓vpost_ret, vfin_some, vfin2_some, at_hp, List.getElem?_cons_zero, List.getElem?_cons_succ, List.cons_append, List.nil_append, Option.map_some, Option.bind_some, Nat.reduceAdd, Nat.reduceLT, Nat.reduceBEq, Int.reduceLT, Int.reduceAdd, Int.reduceBEq, Nat.zero_add, decide_false, and_self, or_true, Bool.not_true, Bool.not_false, Bool.or_true, Bool.and_self, Bool.cond_self, beq_self_eq_true, dec_t, Ret, DV.nums, d4]
        simp (config := { maxSteps := 2000000 }) (implicitDefEqProofs := false) (disch := first | omega | assumption | (simp only [List.length_cons, List.length_nil, Nat.zero_add, Nat.reduceAdd]; done) | fail) only [vop_move, vcallee_move, vop_assign, vcallee_assign, vop_alloc, vcallee_alloc, vop_load, vcallee_load, vop_store, vcallee_store, vop_indexAddr, vcallee_indexAddr, strip_pv, strip_ptr, strip_ip, strip_agg, optV_none, ev_tmp, put_some, put_none, at_mk, fits_some, fits_none, ↓look_cons, ↓vlook_t, ↓vlook_f, guard_none, ↓vrun_nil, ↓code_skip, ↓code_region, ↓code_draw, ↓code_seq, ↓code_block, ↓onNormal_normal, load_ip, vldp_agg, store_ptr, vst_agg, blk_zero, blk_succ, set_zero, set_succ, alloc_eq, val1_some, allOne_nil, allOne_cons, one_pv, iaddr_sl, vias_some, evG_eq, ↓vrun_cons, ↓run1_some, ↓runG_true, ↓run2_none, ↓run3_some, at_hp, List.map_nil, V.splice, List.length_cons, List.length_nil, List.map_cons, List.map_nil, List.cons_append, List.nil_append, List.append_nil, List.take_succ_cons, List.take_zero, List.take_nil, List.drop_succ_cons, List.drop_nil, Option.map_some, ↓reduceIte, Nat.reduceAdd, Nat.reduceLT, Nat.reduceBEq, Int.reduceLT, Int.reduceAdd, Int.reduceBEq, Int.toNat_natCast, Nat.zero_add, true_and, and_self, Bool.true_and, Bool.and_self, beq_self_eq_true, Nat.le_refl, Try.velem31, Try.vt61, Try.vzero61, dec_t, hg]
        refine vdraw (by kernel_rfl) (by kernel_rfl) ?_
        simp (config := { maxSteps := 2000000 }) (implicitDefEqProofs := false) (disch := first | omega | assumption) only [vop_move, vcallee_move, okKind_move, foot_move, vop_pick, vcallee_pick, okKind_pick, foot_pick, vop_load, vcallee_load, okKind_load, vop_binOp, vcallee_binOp, okKind_binOp, foot_binOp, vop_fieldAddr, vcallee_fieldAddr, okKind_fieldAddr, foot_fieldAddr, foot_load, vcallee_value, vcal_fn, ptrNo_ptr, bin2_tmp, bin2_int, vpick_bool, strip_pv, strip_ptr, strip_tup, strip_fn, strip_opt, vstr_true, optV_none, optV_some, pickV_bool, ev_tmp, ev_const, ev_func, ofConst_int, ofConst_bool, put_some, at_mk, fits_some, ↓look_cons, ↓vlook_t, ↓vlook_f, guard_none, guard_some, vgof_bool, vgof_opt, load_ptr, vld_one, vld_agg, blk_zero, blk_succ, faddr_ptr, vfap_some, bin_int, int_lss, int_gtr, int_geq, okc_nil, okc_none, okc_other, okc_one, evG_eq, ↓vdr_cons, ↓dr1_some, ↓drG_true, ↓drG_false, ↓dr2_none, ↓dr2_some, ↓dr3_some, at_hp, pickV_f, List.map_nil, List.getElem?_cons_zero, List.getElem?_cons_succ, List.length_cons, List.length_nil, List.map_cons, List.map_nil, List.cons_append, List.nil_append, List.append_nil, List.take_succ_cons, List.take_nil, List.drop_zero, List.any_nil, List.any_cons, Option.map_some, Option.bind_some, ↓reduceIte, reduceCtorEq, Nat.reduceAdd, Nat.reduceLT, Nat.reduceBEq, Int.reduceLT, Int.reduceAdd, Int.reduceBEq, Nat.zero_add, Nat.add_zero, decide_false, true_and, and_true, and_self, and_false, or_true, or_false, or_self, Bool.not_true, Bool.not_false, Bool.or_true, Bool.or_false, Bool.and_true, Bool.true_and, Bool.and_false, Bool.or_self, Bool.and_self, b_beq_t, cond_false, beq_self_eq_true, Nat.le_refl, Try.vt3, Try.vt34, Try.vfield34x0, Try.vfield61x0, dec_t, hs0, d1, d2]
        refine vdc_call (hb1) rfl rfl ?_
        have hnin : ¬ (0 ≤ ad ∧ ad < 64) → viap (some (some 64, 4, 1)) 1 0 ad = none := fun h => viap_none h
        by_cases d5 : ad < pages
        · rw [hfail (by rw [hchk]; simp [show ¬ pages ≤ ad by omega])]
          by_cases hin : 0 ≤ ad ∧ ad < 64
          · have hug := usedL_get u ad.toNat (by omega)
            obtain ⟨hin1, hin2⟩ := hin
            simp (config := { maxSteps := 2000000 }) (implicitDefEqProofs := false) (disch := first | omega | assumption) only [vop_move, vcallee_move, vop_assign, vcallee_assign, okKind_assign, foot_assign, vop_pick, vcallee_pick, okKind_pick, foot_pick, vop_load, vcallee_load, vop_binOp, vcallee_binOp, vop_unOp, vcallee_unOp, okKind_unOp, foot_unOp, vop_fieldAddr, vcallee_fieldAddr, bin2_tmp, vpick_bool, strip_pv, strip_ptr, strip_tup, strip_opt, vstr_true, optV_none, optV_some, pickV_bool, ev_tmp, ev_const, ofConst_bool, put_some, at_mk, fits_some, ↓look_cons, ↓vlook_t, ↓vlook_f, guard_none, guard_some, vgof_bool, ↓vrun_nil, ↓vdr_nil, ↓code_region, ↓code_seq, ↓code_ret, ↓onNormal_normal, ↓onNormal_ret, ↓onBlock_ret, frz_pv, frzHeap_zero, res_one, vres_tmp, load_ptr, vld_one, blk_zero, blk_succ, faddr_ptr, vfap_some, bin_int, int_lss, un_not, okc_nil, okc_none, okc_other, evG_eq, ↓vrun_cons, ↓run1_some, ↓runG_true, ↓runG_false, ↓run2_none, ↓run3_some, ↓vdr_cons, ↓dr1_some, ↓drG_true, ↓dr2_none, ↓dr3_some, ↓drK_eq, ↓code_cond, ↓vtest_bool, ↓vbr_true, ↓vbr_false, ↓vpost_ret, vfin_some, vfin2_some, at_hp, pickV_t, List.getElem?_cons_zero, List.getElem?_cons_succ, List.cons_append, List.nil_append, Option.map_some, Option.bind_some, ↓reduceIte, reduceCtorEq, Nat.reduceAdd, Nat.reduceLT, Nat.reduceBEq, Int.reduceLT, Int.reduceAdd, Int.reduceBEq, Nat.zero_add, Nat.add_zero, and_self, or_true, Bool.not_true, Bool.not_false, Bool.or_true, Bool.and_self, b_beq_f, cond_false, beq_self_eq_true, Try.vt3, Try.vfield34x0, Try.vfield61x1, dec_t, Ret, DV.nums, d4, d5]
          · have hnn := hnin hin
            simp (config := { maxSteps := 2000000 }) (implicitDefEqProofs := false) (disch := first | omega | assumption) only [vop_move, vcallee_move, vop_assign, vcallee_assign, okKind_assign, foot_assign, vop_pick, vcallee_pick, okKind_pick, foot_pick, vop_load, vcallee_load, vop_binOp, vcallee_binOp, vop_unOp, vcallee_unOp, okKind_unOp, foot_unOp, vop_fieldAddr, vcallee_fieldAddr, bin2_tmp, vpick_bool, strip_pv, strip_ptr, strip_tup, strip_opt, vstr_true, optV_none, optV_some, pickV_bool, ev_tmp, ev_const, ofConst_bool, put_some, at_mk, fits_some, ↓look_cons, ↓vlook_t, ↓vlook_f, guard_none, guard_some, vgof_bool, ↓vrun_nil, ↓vdr_nil, ↓code_region, ↓code_seq, ↓code_ret, ↓onNormal_normal, ↓onNormal_ret, ↓onBlock_ret, frz_pv, frzHeap_zero, res_one, vres_tmp, load_ptr, vld_one, blk_zero, blk_succ, faddr_ptr, vfap_some, bin_int, int_lss, un_not, okc_nil, okc_none, okc_other, evG_eq, ↓vrun_cons, ↓run1_some, ↓runG_true, ↓runG_false, ↓run2_none, ↓run3_some, ↓vdr_cons, ↓dr1_some, ↓drG_true, ↓dr2_none, ↓dr3_some, ↓drK_eq, ↓code_cond, ↓vtest_bool, ↓vbr_true, ↓vbr_false, ↓vpost_ret, vfin_some, vfin2_some, at_hp, pickV_t, List.getElem?_cons_zero, List.getElem?_cons_succ, List.cons_append, List.nil_append, Option.map_some, Option.bind_some, ↓reduceIte, reduceCtorEq, Nat.reduceAdd, Nat.reduceLT, Nat.reduceBEq, Int.reduceLT, Int.reduceAdd, Int.reduceBEq, Nat.zero_add, Nat.add_zero, and_self, or_true, Bool.not_true, Bool.not_false, Bool.or_true, Bool.and_self, b_beq_f, cond_false, beq_self_eq_true, Try.vt3, Try.vfield34x0, Try.vfield61x1, dec_t, Ret, DV.nums, d4, d5]
        by_cases d6 : pages + spares ≤ ad
        · rw [hfail (by rw [hchk]; simp [show ¬ ad < pages + spares by omega])]
          by_cases hin : 0 ≤ ad ∧ ad < 64
          · have hug := usedL_get u ad.toNat (by omega)
            obtain ⟨hin1, hin2⟩ := hin
            simp (config := { maxSteps := 2000000 }) (implicitDefEqProofs := false) (disch := first | omega | assumption) only [vop_move, vcallee_move, vop_assign, vcallee_assign, okKind_assign, foot_assign, vop_pick, vcallee_pick, okKind_pick, foot_pick, vop_load, vcallee_load, vop_binOp, vcallee_binOp, vop_unOp, vcallee_unOp, okKind_unOp, foot_unOp, vop_fieldAddr, vcallee_fieldAddr, bin2_tmp, vpick_bool, strip_pv, strip_ptr, strip_tup, strip_opt, vstr_true, optV_none, optV_some, pickV_bool, ev_tmp, ev_const, ofConst_bool, put_some, at_mk, fits_some, ↓look_cons, ↓vlook_t, ↓vlook_f, guard_none, guard_some, vgof_bool, ↓vrun_nil, ↓vdr_nil, ↓code_region, ↓code_seq, ↓code_ret, ↓onNormal_normal, ↓onNormal_ret, ↓onBlock_ret, frz_pv, frzHeap_zero, res_one, vres_tmp, load_ptr, vld_one, blk_zero, blk_succ, faddr_ptr, vfap_some, bin_int, int_add, int_lss, int_geq, un_not, okc_nil, okc_none, okc_other, evG_eq, ↓vrun_cons, ↓run1_some, ↓runG_true, ↓runG_false, ↓run2_none, ↓run3_some, ↓vdr_cons, ↓dr1_some, ↓drG_true, ↓dr2_none, ↓dr3_some, ↓drK_eq, ↓code_cond, ↓vtest_bool, ↓vbr_true, ↓vbr_false, ↓vpost_ret, vfin_some, vfin2_some, at_hp, pickV_t, List.getElem?_cons_zero, List.getElem?_cons_succ, List.cons_append, List.nil_append, Option.map_some, Option.bind_some, ↓reduceIte, reduceCtorEq, Nat.reduceAdd, Nat.reduceLT, Nat.reduceBEq, Int.reduceLT, Int.reduceAdd, Int.reduceBEq, Nat.zero_add, Nat.add_zero, decide_false, and_self, or_true, Bool.not_true, Bool.not_false, Bool.or_true, Bool.and_self, b_beq_f, cond_false, Bool.cond_self, beq_self_eq_true, Try.vt3, Try.vfield34x0, Try.vfield34x1, Try.vfield61x1, wrap_i64_in, dec_t, Ret, DV.nums, d4, d5, d6]
          · have hnn := hnin hin
            simp (config := { maxSteps := 2000000 }) (implicitDefEqProofs := false) (disch := first | omega | assumption) only [vop_move, vcallee_move, vop_assign, vcallee_assign, okKind_assign, foot_assign, vop_pick, vcallee_pick, okKind_pick, foot_pick, vop_load, vcallee_load, vop_binOp, vcallee_binOp, vop_unOp, vcallee_unOp, okKind_unOp, foot_unOp, vop_fieldAddr, vcallee_fieldAddr, bin2_tmp, vpick_bool, strip_pv, strip_ptr, strip_tup, strip_opt, vstr_true, optV_none, optV_some, pickV_bool, ev_tmp, ev_const, ofConst_bool, put_some, at_mk, fits_some, ↓look_cons, ↓vlook_t, ↓vlook_f, guard_none, guard_some, vgof_bool, ↓vrun_nil, ↓vdr_nil, ↓code_region, ↓code_seq, ↓code_ret, ↓onNormal_normal, ↓onNormal_ret, ↓onBlock_ret, frz_pv, frzHeap_zero, res_one, vres_tmp, load_ptr, vld_one, blk_zero, blk_succ, faddr_ptr, vfap_some, bin_int, int_add, int_lss, int_geq, un_not, okc_nil, okc_none, okc_other, evG_eq, ↓vrun_cons, ↓run1_some, ↓runG_true, ↓runG_false, ↓run2_none, ↓run3_some, ↓vdr_cons, ↓dr1_some, ↓drG_true, ↓dr2_none, ↓dr3_some, ↓drK_eq, ↓code_cond, ↓vtest_bool, ↓vbr_true, ↓vbr_false, ↓vpost_ret, vfin_some, vfin2_some, at_hp, pickV_t, List.getElem?_cons_zero, List.getElem?_cons_succ, List.cons_append, List.nil_append, Option.map_some, Option.bind_some, ↓reduceIte, reduceCtorEq, Nat.reduceAdd, Nat.reduceLT, Nat.reduceBEq, Int.reduceLT, Int.reduceAdd, Int.reduceBEq, Nat.zero_add, Nat.add_zero, decide_false, and_self, or_true, Bool.not_true, Bool.not_false, Bool.or_true, Bool.and_self, b_beq_f, cond_false, Bool.cond_self, beq_self_eq_true, Try.vt3, Try.vfield34x0, Try.vfield34x1, Try.vfield61x1, wrap_i64_in, dec_t, Ret, DV.nums, d4, d5, d6]
        have hin1 : 0 ≤ ad := by omega
        have hin2 : ad < 64 := by omega
        have hug := usedL_get u ad.toNat (by omega)
        have hus := usedL_set u ad.toNat
        rw [show ((ad.toNat : Nat) : Int) = ad by omega] at hug hus
        by_cases d7 : ad ∈ bad
        · rw [hfail (by rw [hchk]; simp [d7])]
          simp (config := { maxSteps := 2000000 }) (implicitDefEqProofs := false) (disch := first | omega | assumption) only [vop_move, vcallee_move, vop_assign, vcallee_assign, okKind_assign, foot_assign, vop_pick, vcallee_pick, okKind_pick, foot_pick, vop_load, vcallee_load, vop_binOp, vcallee_binOp, vop_unOp, vcallee_unOp, okKind_unOp, foot_unOp, vop_fieldAddr, vcallee_fieldAddr, vcallee_value, vcal_fn, bin2_tmp, vpick_bool, strip_pv, strip_ptr, strip_fn, strip_opt, vstr_true, optV_none, optV_some, pickV_bool, ev_tmp, ev_const, ev_func, ofConst_bool, put_some, at_mk, fits_some, ↓look_cons, ↓vlook_t, ↓vlook_f, guard_none, guard_some, vgof_bool, ↓vdr_nil, ↓code_region, ↓code_seq, ↓onNormal_normal, load_ptr, vld_one, vld_agg, blk_zero, blk_succ, faddr_ptr, vfap_some, bin_int, int_add, int_lss, int_geq, un_not, okc_nil, okc_none, okc_other, evG_eq, ↓vrun_cons, ↓run1_some, ↓runG_true, ↓run2_none, ↓run2_some, ↓run3_some, ↓vdr_cons, ↓dr1_some, ↓drG_true, ↓dr2_none, ↓dr3_some, ↓drK_eq, ↓code_cond, ↓vtest_bool, ↓vbr_false, at_hp, List.map_nil, List.getElem?_cons_zero, List.getElem?_cons_succ, List.length_cons, List.length_nil, List.map_cons, List.map_nil, List.cons_append, List.nil_append, List.append_nil, List.take_succ_cons, List.take_nil, List.drop_zero, Option.map_some, Option.bind_some, ↓reduceIte, reduceCtorEq, Nat.reduceAdd, Nat.reduceLT, Nat.reduceBEq, Int.reduceLT, Int.reduceAdd, Int.reduceBEq, Nat.zero_add, Nat.add_zero, decide_false, true_and, or_true, Bool.not_true, Bool.not_false, Bool.or_true, Bool.true_and, cond_false, beq_self_eq_true, Nat.le_refl, Try.vt3, Try.vt34, Try.vfield34x0, Try.vfield34x1, Try.vfield61x1, wrap_i64_in, dec_t, d4, d5, d6]
          refine vc_pure (hb2) rfl ?_
          simp (config := { maxSteps := 2000000 }) (implicitDefEqProofs := false) (disch := first | omega | assumption) only [vop_move, vcallee_move, vop_assign, vcallee_assign, vop_pick, vcallee_pick, vpick_bool, strip_pv, strip_tup, strip_opt, vstr_true, optV_none, optV_some, pickV_bool, ev_tmp, ev_const, ofConst_bool, put_some, at_mk, fits_some, ↓look_cons, ↓vlook_t, ↓vlook_f, guard_none, guard_some, vgof_bool, ↓vrun_nil, ↓code_region, ↓code_seq, ↓code_ret, ↓onNormal_normal, ↓onNormal_ret, ↓onBlock_ret, frz_pv, frzHeap_zero, res_one, vres_tmp, evG_eq, ↓vrun_cons, ↓run1_some, ↓runG_true, ↓runG_false, ↓run2_none, ↓run3_some, ↓runK_eq, ↓code_cond, ↓vtest_bool, ↓vbr_true, ↓vpost_ret, vfin_some, vfin2_some, at_hp, pickV_t, List.getElem?_cons_zero, List.getElem?_cons_succ, Option.map_some, Option.bind_some, Nat.reduceLT, Nat.reduceBEq, Int.reduceLT, Int.reduceBEq, and_self, or_true, Bool.not_true, Bool.not_false, Bool.or_true, Bool.and_self, b_beq_f, Bool.cond_self, beq_self_eq_true, dec_t, Ret, DV.nums, d7]
        by_cases d8 : ad ∈ u
        · rw [hfail (by rw [hchk]; simp [d8])]
          simp (config := { maxSteps := 2000000 }) (implicitDefEqProofs := false) (disch := first | omega | assumption) only [vop_move, vcallee_move, vop_assign, vcallee_assign, okKind_assign, foot_assign, vop_pick, vcallee_pick, okKind_pick, foot_pick, vop_load, vcallee_load, vop_binOp, vcallee_binOp, vop_unOp, vcallee_unOp, okKind_unOp, foot_unOp, vop_fieldAddr, vcallee_fieldAddr, vcallee_value, vcal_fn, bin2_tmp, vpick_bool, strip_pv, strip_ptr, strip_fn, strip_opt, vstr_true, optV_none, optV_some, pickV_bool, ev_tmp, ev_const, ev_func, ofConst_bool, put_some, at_mk, fits_some, ↓look_cons, ↓vlook_t, ↓vlook_f, guard_none, guard_some, vgof_bool, ↓vdr_nil, ↓code_region, ↓code_seq, ↓onNormal_normal, load_ptr, vld_one, vld_agg, blk_zero, blk_succ, faddr_ptr, vfap_some, bin_int, int_add, int_lss, int_geq, un_not, okc_nil, okc_none, okc_other, evG_eq, ↓vrun_cons, ↓run1_some, ↓runG_true, ↓run2_none, ↓run2_some, ↓run3_some, ↓vdr_cons, ↓dr1_some, ↓drG_true, ↓dr2_none, ↓dr3_some, ↓drK_eq, ↓code_cond, ↓vtest_bool, ↓vbr_false, at_hp, List.map_nil, List.getElem?_cons_zero, List.getElem?_cons_succ, List.length_cons, List.length_nil, List.map_cons, List.map_nil, List.cons_append, List.nil_append, List.append_nil, List.take_succ_cons, List.take_nil, List.drop_zero, Option.map_some, Option.bind_some, ↓reduceIte, reduceCtorEq, Nat.reduceAdd, Nat.reduceLT, Nat.reduceBEq, Int.reduceLT, Int.reduceAdd, Int.reduceBEq, Nat.zero_add, Nat.add_zero, decide_false, true_and, or_true, Bool.not_true, Bool.not_false, Bool.or_true, Bool.true_and, cond_false, beq_self_eq_true, Nat.le_refl, Try.vt3, Try.vt34, Try.vfield34x0, Try.vfield34x1, Try.vfield61x1, wrap_i64_in, dec_t, d4, d5, d6]
          refine vc_pure (hb2) rfl ?_
          simp (config := { maxSteps := 2000000 }) (implicitDefEqProofs := false) (disch := first | omega | assumption) only [vop_move, vcallee_move, vop_assign, vcallee_assign, vop_pick, vcallee_pick, vop_load, vcallee_load, vop_fieldAddr, vcallee_fieldAddr, vop_indexAddr, vcallee_indexAddr, vpick_bool, strip_pv, strip_ptr, strip_opt, vstr_true, optV_none, optV_some, pickV_bool, ev_tmp, ev_const, ofConst_bool, put_some, at_mk, fits_some, ↓look_cons, ↓vlook_t, ↓vlook_f, guard_none, guard_some, vgof_bool, ↓vrun_nil, ↓code_region, ↓code_seq, ↓code_ret, ↓onNormal_normal, ↓onNormal_ret, ↓onBlock_ret, frz_pv, frzHeap_zero, res_one, vres_tmp, load_ptr, vld_one, blk_zero, blk_succ, faddr_ptr, vfap_some, iaddr_ptr, viap_some, evG_eq, ↓vrun_cons, ↓run1_some, ↓runG_true, ↓run2_none, ↓run3_some, ↓runK_eq, ↓code_cond, ↓vtest_bool, ↓vbr_true, ↓vpost_ret, vfin_some, vfin2_some, at_hp, List.getElem?_cons_zero, List.getElem?_cons_succ, Option.map_some, Option.bind_some, ↓reduceIte, reduceCtorEq, Nat.reduceLT, Nat.reduceBEq, Int.reduceLT, Int.reduceBEq, Nat.zero_add, Nat.mul_one, decide_false, and_self, or_true, Bool.not_true, Bool.not_false, Bool.or_true, Bool.and_self, cond_false, Bool.cond_self, beq_self_eq_true, Try.vt3, Try.vt4, Try.vfield61x1, Try.velem72, dec_t, Ret, DV.nums, hug, d7, d8]
        obtain ⟨t, ht1⟩ := step (by rw [hchk]; simp [c0, d4, d7, d8]; omega)
        have hadn : ad.toNat < 64 := by omega
        simp (config := { maxSteps := 2000000 }) (implicitDefEqProofs := false) (disch := first | omega | assumption) only [vop_move, vcallee_move, vop_assign, vcallee_assign, okKind_assign, foot_assign, vop_pick, vcallee_pick, okKind_pick, foot_pick, vop_load, vcallee_load, vop_binOp, vcallee_binOp, vop_unOp, vcallee_unOp, okKind_unOp, foot_unOp, vop_fieldAddr, vcallee_fieldAddr, vcallee_value, vcal_fn, bin2_tmp, vpick_bool, strip_pv, strip_ptr, strip_fn, strip_opt, vstr_true, optV_none, optV_some, pickV_bool, ev_tmp, ev_const, ev_func, ofConst_bool, put_some, at_mk, fits_some, ↓look_cons, ↓vlook_t, ↓vlook_f, guard_none, guard_some, vgof_bool, ↓vdr_nil, ↓code_region, ↓code_seq, ↓onNormal_normal, load_ptr, vld_one, vld_agg, blk_zero, blk_succ, faddr_ptr, vfap_some, bin_int, int_add, int_lss, int_geq, un_not, okc_nil, okc_none, okc_other, evG_eq, ↓vrun_cons, ↓run1_some, ↓runG_true, ↓run2_none, ↓run2_some, ↓run3_some, ↓vdr_cons, ↓dr1_some, ↓drG_true, ↓dr2_none, ↓dr3_some, ↓drK_eq, ↓code_cond, ↓vtest_bool, ↓vbr_false, at_hp, List.map_nil, List.getElem?_cons_zero, List.getElem?_cons_succ, List.length_cons, List.length_nil, List.map_cons, List.map_nil, List.cons_append, List.nil_append, List.append_nil, List.take_succ_cons, List.take_nil, List.drop_zero, Option.map_some, Option.bind_some, ↓reduceIte, reduceCtorEq, Nat.reduceAdd, Nat.reduceLT, Nat.reduceBEq, Int.reduceLT, Int.reduceAdd, Int.reduceBEq, Nat.zero_add, Nat.add_zero, decide_false, true_and, or_true, Bool.not_true, Bool.not_false, Bool.or_true, Bool.true_and, cond_false, beq_self_eq_true, Nat.le_refl, Try.vt3, Try.vt34, Try.vfield34x0, Try.vfield34x1, Try.vfield61x1, wrap_i64_in, dec_t, d4, d5, d6]
        refine vc_pure (hb2) rfl ?_
        simp (config := { maxSteps := 2000000 }) (implicitDefEqProofs := false) (disch := first | omega | assumption) only [vop_move, vcallee_move, vop_assign, vcallee_assign, vop_pick, vcallee_pick, vop_load, vcallee_load, vop_store, vcallee_store, vop_binOp, vcallee_binOp, vop_fieldAddr, vcallee_fieldAddr, vop_indexAddr, vcallee_indexAddr, bin2_int, vpick_bool, strip_pv, strip_ptr, strip_opt, vstr_true, optV_none, optV_some, pickV_bool, ev_tmp, ev_const, ofConst_int, ofConst_bool, put_some, put_none, at_mk, fits_some, fits_none, ↓look_cons, ↓vlook_t, ↓vlook_f, guard_none, guard_some, vgof_bool, ↓vrun_nil, ↓code_skip, ↓code_region, ↓onNormal_normal, ↓onBlock_normal, load_ptr, vld_one, store_ptr, vst_one, blk_zero, blk_succ, set_zero, set_succ, one_pv, faddr_ptr, vfap_some, iaddr_ptr, viap_some, bin_int, int_add, evG_eq, ↓vrun_cons, ↓run1_some, ↓runG_true, ↓run2_none, ↓run3_some, ↓runK_eq, ↓code_cond, ↓vtest_bool, ↓vbr_false, at_hp, List.getElem?_cons_zero, List.getElem?_cons_succ, Option.map_some, Option.bind_some, ↓reduceIte, reduceCtorEq, Nat.reduceLT, Nat.reduceBEq, Int.reduceLT, Int.reduceBEq, Nat.zero_add, Nat.mul_one, decide_false, true_and, and_self, or_true, Bool.not_true, Bool.not_false, Bool.or_true, Bool.true_and, Bool.and_self, cond_false, beq_self_eq_true, cellsB_len, Try.vt3, Try.vt4, Try.vfield61x1, Try.velem72, wrap_i64_in, dec_t, hug, d7, d8, cellsB_len, usedL_len, hadn, hus]
        refine ⟨t, by rw [ht1]; omega, ?_⟩
        rw [ht1, htk]
        exact (by refine gc_of (keep := [0, 1]) rfl rfl rfl (by decide) ?_ ?_ <;> (repeat' apply And.intro) <;> first | trivial | rfl | exact ⟨_, rfl, rfl, rfl, .inl ⟨rfl, rfl⟩⟩ | exact ⟨_, rfl, rfl, rfl, .inl ⟨cells_nums _ _ _, rfl⟩⟩ | exact ⟨_, rfl, rfl, rfl, .inl ⟨pvs_nums _ _, rfl⟩⟩ | exact ⟨_, rfl, rfl, rfl, .inr ⟨rfl, rfl⟩⟩)
      · have hs0 : (0 : Int) < (s2.i : Int) := by omega
        obtain ⟨q, hq⟩ : ∃ q, (places.getD (s2.i - 1) P0).pg = q := ⟨_, rfl⟩
        obtain ⟨q2, hq2⟩ : ∃ q2, (places.getD (s2.i - 1) P0).ad = q2 := ⟨_, rfl⟩
        have hidx : vias (some (none, 61, 2)) (fz encP places)[((s2.i : Int) - 1).toNat]? ((s2.i : Int) - 1) = some (.ip [.lit (.int .i64 q), .lit (.int .i64 q2)]) := by
          rw [← hq, ← hq2, show ((s2.i : Int) - 1).toNat = s2.i - 1 by omega, fz_at encP places (s2.i - 1) (by omega), List.getD_eq_getElem?_getD, List.getElem?_eq_getElem (by omega)]
          simp [vias, encP]; omega
        rw [hq] at hchk
        by_cases d1 : pg < 0
        · rw [hfail (by rw [hchk]; simp [show ¬ 0 ≤ pg by omega])]
          simp (config := { maxSteps := 2000000 }) (implicitDefEqProofs := false) (disch := first | omega | assumption | (simp only [List.length_cons, List.length_nil, Nat.zero_add, Nat.reduceAdd]; done) | fail) only [vop_move, vcallee_move, vop_assign, vcallee_assign, vop_alloc, vcallee_alloc, vop_load, vcallee_load, vop_store, vcallee_store, vop_indexAddr, vcallee_indexAddr, strip_pv, strip_ptr, strip_ip, strip_agg, optV_none, ev_tmp, put_some, put_none, at_mk, fits_some, fits_none, ↓look_cons, ↓vlook_t, ↓vlook_f, guard_none, ↓vrun_nil, ↓code_skip, ↓code_region, ↓code_draw, ↓code_seq, ↓code_block, ↓onNormal_normal, load_ip, vldp_agg, store_ptr, vst_agg, blk_zero, blk_succ, set_zero, set_succ, alloc_eq, val1_some, allOne_nil, allOne_cons, one_pv, iaddr_sl, vias_some, evG_eq, ↓vrun_cons, ↓run1_some, ↓runG_true, ↓run2_none, ↓run3_some, at_hp, List.map_nil, V.splice, List.length_cons, List.length_nil, List.map_cons, List.map_nil, List.cons_append, List.nil_append, List.append_nil, List.take_succ_cons, List.take_zero, List.take_nil, List.drop_succ_cons, List.drop_nil, Option.map_some, ↓reduceIte, Nat.reduceAdd, Nat.reduceLT, Nat.reduceBEq, Int.reduceLT, Int.reduceAdd, Int.reduceBEq, Int.toNat_natCast, Nat.zero_add, true_and, and_self, Bool.true_and, Bool.and_self, beq_self_eq_true, Nat.le_refl, Try.velem31, Try.vt61, Try.vzero61, dec_t, hg]
          refine vdraw (by kernel_rfl) (by kernel_rfl) ?_
          simp (config := { maxSteps := 2000000 }) (implicitDefEqProofs := false) (disch := first | omega | assumption) only [vop_move, vcallee_move, okKind_move, foot_move, vop_assign, vcallee_assign, okKind_assign, foot_assign, vop_pick, vcallee_pick, okKind_pick, foot_pick, vop_load, vcallee_load, okKind_load, vop_binOp, vcallee_binOp, okKind_binOp, foot_binOp, vop_fieldAddr, vcallee_fieldAddr, okKind_fieldAddr, foot_fieldAddr, foot_load, ptrNo_ptr, bin2_int, vpick_bool, strip_pv, strip_ptr, strip_tup, optV_none, ev_tmp, ev_const, ofConst_int, ofConst_bool, put_some, at_mk, fits_some, ↓look_cons, ↓vlook_t, ↓vlook_f, guard_none, guard_some, vgof_bool, vgof_skip, ↓vrun_nil, ↓vdr_nil, ↓code_region, ↓code_seq, ↓code_ret, ↓onNormal_normal, ↓onNormal_ret, ↓onBlock_ret, frz_pv, frzHeap_zero, res_one, vres_tmp, load_ptr, vld_one, blk_zero, blk_succ, faddr_ptr, vfap_some, bin_int, int_lss, okc_nil, okc_none, okc_other, evG_eq, ↓vrun_cons, ↓run1_some, ↓runG_true, ↓run2_none, ↓run3_some, ↓vdr_cons, ↓dr1_some, ↓drG_true, ↓drG_false, ↓dr2_none, ↓dr3_some, ↓code_cond, ↓vtest_bool, ↓vbr_true, ↓vpost_ret, vfin_some, vfin2_some, at_hp, pickV_t, List.getElem?_cons_zero, List.getElem?_cons_succ, List.cons_append, List.nil_append, Option.map_some, Option.bind_some, ↓reduceIte, reduceCtorEq, Nat.reduceAdd, Nat.reduceLT, Nat.reduceBEq, Int.reduceLT, Int.reduceAdd, Int.reduceBEq, Nat.zero_add, Nat.add_zero, and_self, Bool.not_true, Bool.and_self, b_beq_f, beq_self_eq_true, Try.vt3, Try.vfield61x0, dec_t, Ret, DV.nums, d1]
        by_cases d2 : pages ≤ pg
        · rw [hfail (by rw [hchk]; simp [show ¬ pg < pages by omega])]
          simp (config := { maxSteps := 2000000 }) (implicitDefEqProofs := false) (disch := first | omega | assumption | (simp only [List.length_cons, List.length_nil, Nat.zero_add, Nat.reduceAdd]; done) | fail) only [vop_move, vcallee_move, vop_assign, vcallee_assign, vop_alloc, vcallee_alloc, vop_load, vcallee_load, vop_store, vcallee_store, vop_indexAddr, vcallee_indexAddr, strip_pv, strip_ptr, strip_ip, strip_agg, optV_none, ev_tmp, put_some, put_none, at_mk, fits_some, fits_none, ↓look_cons, ↓vlook_t, ↓vlook_f, guard_none, ↓vrun_nil, ↓code_skip, ↓code_region, ↓code_draw, ↓code_seq, ↓code_block, ↓onNormal_normal, load_ip, vldp_agg, store_ptr, vst_agg, blk_zero, blk_succ, set_zero, set_succ, alloc_eq, val1_some, allOne_nil, allOne_cons, one_pv, iaddr_sl, vias_some, evG_eq, ↓vrun_cons, ↓run1_some, ↓runG_true, ↓run2_none, ↓run3_some, at_hp, List.map_nil, V.splice, List.length_cons, List.length_nil, List.map_cons, List.map_nil, List.cons_append, List.nil_append, List.append_nil, List.take_succ_cons, List.take_zero, List.take_nil, List.drop_succ_cons, List.drop_nil, Option.map_some, ↓reduceIte, Nat.reduceAdd, Nat.reduceLT, Nat.reduceBEq, Int.reduceLT, Int.reduceAdd, Int.reduceBEq, Int.toNat_natCast, Nat.zero_add, true_and, and_self, Bool.true_and, Bool.and_self, beq_self_eq_true, Nat.le_refl, Try.velem31, Try.vt61, Try.vzero61, dec_t, hg]
          refine vdraw (by kernel_rfl) (by kernel_rfl) ?_
          simp (config := { maxSteps := 2000000 }) (implicitDefEqProofs := false) (disch := first | omega | assumption) only [vop_move, vcallee_move, okKind_move, foot_move, vop_assign, vcallee_assign, okKind_assign, foot_assign, vop_pick, vcallee_pick, okKind_pick, foot_pick, vop_load, vcallee_load, okKind_load, vop_binOp, vcallee_binOp, okKind_binOp, foot_binOp, vop_fieldAddr, vcallee_fieldAddr, okKind_fieldAddr, foot_fieldAddr, foot_load, ptrNo_ptr, bin2_tmp, bin2_int, vpick_bool, strip_pv, strip_ptr, strip_tup, strip_opt, vstr_true, optV_none, optV_some, pickV_bool, ev_tmp, ev_const, ofConst_int, ofConst_bool, put_some, at_mk, fits_some, ↓look_cons, ↓vlook_t, ↓vlook_f, guard_none, guard_some, vgof_bool, vgof_skip, ↓vrun_nil, ↓vdr_nil, ↓code_region, ↓code_seq, ↓code_ret, ↓onNormal_normal, ↓onNormal_ret, ↓onBlock_ret, frz_pv, frzHeap_zero, res_one, vres_tmp, load_ptr, vld_one, blk_zero, blk_succ, faddr_ptr, vfap_some, bin_int, int_lss, int_geq, okc_nil, okc_none, okc_other, okc_one, evG_eq, ↓vrun_cons, ↓run1_some, ↓runG_true, ↓run2_none, ↓run3_some, ↓vdr_cons, ↓dr1_some, ↓drG_true, ↓drG_false, ↓dr2_none, ↓dr3_some, ↓code_cond, ↓vtest_bool, ↓vbr_true, ↓vpost_ret, vfin_some, vfin2_some, at_hp, pickV_t, List.getElem?_cons_zero, List.getElem?_cons_succ, List.cons_append, List.nil_append, List.any_nil, List.any_cons, Option.map_some, Option.bind_some, ↓reduceIte, reduceCtorEq, Nat.reduceAdd, Nat.reduceLT, Nat.reduceBEq, Int.reduceLT, Int.reduceAdd, Int.reduceBEq, Nat.zero_add, Nat.add_zero, decide_false, and_true, and_self, and_false, or_true, or_false, or_self, Bool.not_true, Bool.not_false, Bool.or_true, Bool.or_false, Bool.and_true, Bool.and_false, Bool.or_self, Bool.and_self, b_beq_f, Bool.cond_self, beq_self_eq_true, Try.vt3, Try.vfield34x0, Try.vfield61x0, dec_t, Ret, DV.nums, d1, d2]
        by_cases d3 : pg ≤ q
        · rw [hfail (by rw [hchk]; simp [c0]; omega)]
          simp (config := { maxSteps := 2000000 }) (implicitDefEqProofs := false) (disch := first | omega | assumption | (simp only [List.length_cons, List.length_nil, Nat.zero_add, Nat.reduceAdd]; done) | fail) only [vop_move, vcallee_move, vop_assign, vcallee_assign, vop_alloc, vcallee_alloc, vop_load, vcallee_load, vop_store, vcallee_store, vop_indexAddr, vcallee_indexAddr, strip_pv, strip_ptr, strip_ip, strip_agg, optV_none, ev_tmp, put_some, put_none, at_mk, fits_some, fits_none, ↓look_cons, ↓vlook_t, ↓vlook_f, guard_none, ↓vrun_nil, ↓code_skip, ↓code_region, ↓code_draw, ↓code_seq, ↓code_block, ↓onNormal_normal, load_ip, vldp_agg, store_ptr, vst_agg, blk_zero, blk_succ, set_zero, set_succ, alloc_eq, val1_some, allOne_nil, allOne_cons, one_pv, iaddr_sl, vias_some, evG_eq, ↓vrun_cons, ↓run1_some, ↓runG_true, ↓run2_none, ↓run3_some, at_hp, List.map_nil, V.splice, List.length_cons, List.length_nil, List.map_cons, List.map_nil, List.cons_append, List.nil_append, List.append_nil, List.take_succ_cons, List.take_zero, List.take_nil, List.drop_succ_cons, List.drop_nil, Option.map_some, ↓reduceIte, Nat.reduceAdd, Nat.reduceLT, Nat.reduceBEq, Int.reduceLT, Int.reduceAdd, Int.reduceBEq, Int.toNat_natCast, Nat.zero_add, true_and, and_self, Bool.true_and, Bool.and_self, beq_self_eq_true, Nat.le_refl, Try.velem31, Try.vt61, Try.vzero61, dec_t, hg]
          refine vdraw (by kernel_rfl) (by kernel_rfl) ?_
          simp (config := { maxSteps := 2000000 }) (implicitDefEqProofs := false) (disch := first | omega | assumption) only [vop_move, vcallee_move, okKind_move, foot_move, vop_assign, vcallee_assign, okKind_assign, foot_assign, vop_pick, vcallee_pick, okKind_pick, foot_pick, vop_load, vcallee_load, okKind_load, vop_binOp, vcallee_binOp, okKind_binOp, foot_binOp, vop_fieldAddr, vcallee_fieldAddr, okKind_fieldAddr, foot_fieldAddr, vop_indexAddr, vcallee_indexAddr, okKind_indexAddr, foot_indexAddr, foot_load, ptrNo_ptr, ptrNo_ip, bin2_tmp, bin2_int, vpick_bool, strip_pv, strip_ptr, strip_tup, strip_opt, vstr_true, optV_none, optV_some, pickV_bool, ev_tmp, ev_const, ofConst_int, ofConst_bool, put_some, at_mk, fits_some, ↓look_cons, ↓vlook_t, ↓vlook_f, guard_none, guard_some, vgof_bool, vgof_opt, ↓vrun_nil, ↓vdr_nil, ↓code_region, ↓code_seq, ↓code_ret, ↓onNormal_normal, ↓onNormal_ret, ↓onBlock_ret, frz_pv, frzHeap_zero, res_one, vres_tmp, load_ptr, load_ip, vld_one, vldp_one, blk_zero, blk_succ, faddr_ptr, vfap_some, faddr_ip, vfai_some, iaddr_sl, bin_int, int_sub, int_lss, int_gtr, int_geq, okc_nil, okc_none, okc_other, okc_one, evG_eq, ↓vrun_cons, ↓run1_some, ↓runG_true, ↓run2_none, ↓run3_some, ↓vdr_cons, ↓dr1_some, ↓drG_true, ↓drG_false, ↓dr2_none, ↓dr3_some, ↓code_cond, ↓vtest_bool, ↓vbr_true, ↓vpost_ret, vfin_some, vfin2_some, at_hp, pickV_t, List.getElem?_cons_zero, List.getElem?_cons_succ, List.cons_append, List.nil_append, List.drop_zero, List.any_nil, List.any_cons, Option.map_some, Option.bind_some, ↓reduceIte, reduceCtorEq, Nat.reduceAdd, Nat.reduceLT, Nat.reduceBEq, Int.reduceLT, Int.reduceAdd, Int.reduceBEq, Nat.zero_add, Nat.add_zero, decide_false, and_true, and_self, and_false, or_true, or_false, or_self, Bool.not_true, Bool.not_false, Bool.or_true, Bool.or_false, Bool.and_true, Bool.and_false, Bool.or_self, Bool.and_self, b_beq_f, cond_true, cond_false, Bool.cond_self, beq_self_eq_true, Try.vt3, Try.vt31, Try.velem31, Try.vfield34x0, Try.vfield34x2, Try.vfield61x0, wrap_i64_in, dec_t, Ret, DV.nums, hidx, hs0, d1, d2, d3]
        by_cases d4 : pg ∈ bad
        case neg =>
          rw [hfail (by rw [hchk]; simp [d4])]
          simp (config := { maxSteps := 2000000 }) (implicitDefEqProofs := false) (disch := first | omega | assumption | (simp only [List.length_cons, List.length_nil, Nat.zero_add, Nat.reduceAdd]; done) | fail) only [vop_move, vcallee_move, vop_assign, vcallee_assign, vop_alloc, vcallee_alloc, vop_load, vcallee_load, vop_store, vcallee_store, vop_indexAddr, vcallee_indexAddr, strip_pv, strip_ptr, strip_ip, strip_agg, optV_none, ev_tmp, put_some, put_none, at_mk, fits_some, fits_none, ↓look_cons, ↓vlook_t, ↓vlook_f, guard_none, ↓vrun_nil, ↓code_skip, ↓code_region, ↓code_draw, ↓code_seq, ↓code_block, ↓onNormal_normal, load_ip, vldp_agg, store_ptr, vst_agg, blk_zero, blk_succ, set_zero, set_succ, alloc_eq, val1_some, allOne_nil, allOne_cons, one_pv, iaddr_sl, vias_some, evG_eq, ↓vrun_cons, ↓run1_some, ↓runG_true, ↓run2_none, ↓run3_some, at_hp, List.map_nil, V.splice, List.length_cons, List.length_nil, List.map_cons, List.map_nil, List.cons_append, List.nil_append, List.append_nil, List.take_succ_cons, List.take_zero, List.take_nil, List.drop_succ_cons, List.drop_nil, Option.map_some, ↓reduceIte, Nat.reduceAdd, Nat.reduceLT, Nat.reduceBEq, Int.reduceLT, Int.reduceAdd, Int.reduceBEq, Int.toNat_natCast, Nat.zero_add, true_and, and_self, Bool.true_and, Bool.and_self, beq_self_eq_true, Nat.le_refl, Try.velem31, Try.vt61, Try.vzero61, dec_t, hg]
          refine vdraw (by kernel_rfl) (by kernel_rfl) ?_
          simp (config := { maxSteps := 2000000 }) (implicitDefEqProofs := false) (disch := first | omega | assumption) only [vop_move, vcallee_move, okKind_move, foot_move, vop_pick, vcallee_pick, okKind_pick, foot_pick, vop_load, vcallee_load, okKind_load, vop_binOp, vcallee_binOp, okKind_binOp, foot_binOp, vop_fieldAddr, vcallee_fieldAddr, okKind_fieldAddr, foot_fieldAddr, vop_indexAddr, vcallee_indexAddr, okKind_indexAddr, foot_indexAddr, foot_load, vcallee_value, vcal_fn, ptrNo_ptr, ptrNo_ip, bin2_tmp, bin2_int, vpick_bool, strip_pv, strip_ptr, strip_fn, strip_opt, vstr_true, optV_none, optV_some, pickV_bool, ev_tmp, ev_const, ev_func, ofConst_int, ofConst_bool, put_some, at_mk, fits_some, ↓look_cons, ↓vlook_t, ↓vlook_f, guard_none, guard_some, vgof_bool, vgof_opt, load_ptr, load_ip, vld_one, vld_agg, vldp_one, blk_zero, blk_succ, faddr_ptr, vfap_some, faddr_ip, vfai_some, iaddr_sl, bin_int, int_sub, int_lss, int_gtr, int_geq, okc_nil, okc_none, okc_other, okc_one, evG_eq, ↓vdr_cons, ↓dr1_some, ↓drG_true, ↓dr2_none, ↓dr2_some, ↓dr3_some, at_hp, List.map_nil, List.getElem?_cons_zero, List.getElem?_cons_succ, List.length_cons, List.length_nil, List.map_cons, List.map_nil, List.cons_append, List.nil_append, List.append_nil, List.take_succ_cons, List.take_nil, List.drop_zero, List.any_nil, List.any_cons, Option.map_some, Option.bind_some, ↓reduceIte, reduceCtorEq, Nat.reduceAdd, Nat.reduceLT, Nat.reduceBEq, Int.reduceLT, Int.reduceAdd, Int.reduceBEq, Nat.zero_add, Nat.add_zero, decide_false, true_and, and_true, and_self, and_false, or_true, or_false, or_self, Bool.not_true, Bool.not_false, Bool.or_true, Bool.or_false, Bool.and_true, Bool.true_and, Bool.and_false, Bool.or_self, Bool.and_self, cond_false, Bool.cond_self, beq_self_eq_true, Nat.le_refl, Try.vt3, Try.vt31, Try.velem31, Try.vt34, Try.vfield34x0, Try.vfield34x2, Try.vfield61x0, wrap_i64_in, dec_t, hidx, hs0, d1, d2, d3]
          refine vdc_call (hb1) rfl rfl ?_
          simp (config := { maxSteps := 2000000 }) (implicitDefEqProofs := false) (disch := first | omega | assumption) only [vop_assign, vcallee_assign, okKind_assign, foot_assign, vop_pick, vcallee_pick, okKind_pick, foot_pick, vop_unOp, vcallee_unOp, okKind_unOp, foot_unOp, vpick_bool, strip_pv, strip_opt, vstr_true, optV_none, optV_some, pickV_bool, ev_tmp, ev_const, ofConst_bool, put_some, at_mk, fits_some, ↓look_cons, ↓vlook_t, ↓vlook_f, guard_none, guard_some, vgof_bool, ↓vrun_nil, ↓vdr_nil, ↓code_region, ↓code_seq, ↓code_ret, ↓onNormal_normal, ↓onNormal_ret, ↓onBlock_ret, frz_pv, frzHeap_zero, res_one, vres_tmp, un_not, okc_nil, okc_none, okc_other, evG_eq, ↓vrun_cons, ↓run1_some, ↓runG_true, ↓run2_none, ↓run3_some, ↓vdr_cons, ↓dr1_some, ↓drG_true, ↓dr2_none, ↓dr3_some, ↓drK_eq, ↓code_cond, ↓vtest_bool, ↓vbr_true, ↓vpost_ret, vfin_some, vfin2_some, at_hp, List.getElem?_cons_zero, List.getElem?_cons_succ, List.cons_append, List.nil_append, Option.map_some, Option.bind_some, Nat.reduceAdd, Nat.reduceLT, Nat.reduceBEq, Int.reduceLT, Int.reduceAdd, Int.reduceBEq, Nat.zero_add, decide_false, and_self, or_true, Bool.not_true, Bool.not_false, Bool.or_true, Bool.and_self, Bool.cond_self, beq_self_eq_true, dec_t, Ret, DV.nums, d4]
        simp (config := { maxSteps := 2000000 }) (implicitDefEqProofs := false) (disch := first | omega | assumption | (simp only [List.length_cons, List.length_nil, Nat.zero_add, Nat.reduceAdd]; done) | fail) only [vop_move, vcallee_move, vop_assign, vcallee_assign, vop_alloc, vcallee_alloc, vop_load, vcallee_load, vop_store, vcallee_store, vop_indexAddr, vcallee_indexAddr, strip_pv, strip_ptr, strip_ip, strip_agg, optV_none, ev_tmp, put_some, put_none, at_mk, fits_some, fits_none, ↓look_cons, ↓vlook_t, ↓vlook_f, guard_none, ↓vrun_nil, ↓code_skip, ↓code_region, ↓code_draw, ↓code_seq, ↓code_block, ↓onNormal_normal, load_ip, vldp_agg, store_ptr, vst_agg, blk_zero, blk_succ, set_zero, set_succ, alloc_eq, val1_some, allOne_nil, allOne_cons, one_pv, iaddr_sl, vias_some, evG_eq, ↓vrun_cons, ↓run1_some, ↓runG_true, ↓run2_none, ↓run3_some, at_hp, List.map_nil, V.splice, List.length_cons, List.length_nil, List.map_cons, List.map_nil, List.cons_append, List.nil_append, List.append_nil, List.take_succ_cons, List.take_zero, List.take_nil, List.drop_succ_cons, List.drop_nil, Option.map_some, ↓reduceIte, Nat.reduceAdd, Nat.reduceLT, Nat.reduceBEq, Int.reduceLT, Int.reduceAdd, Int.reduceBEq, Int.toNat_natCast, Nat.zero_add, true_and, and_self, Bool.true_and, Bool.and_self, beq_self_eq_true, Nat.le_refl, Try.velem31, Try.vt61, Try.vzero61, dec_t, hg]
        refine vdraw (by kernel_rfl) (by kernel_rfl) ?_
        simp (config := { maxSteps := 2000000 }) (implicitDefEqProofs := false) (disch := first | omega | assumption) only [vop_move, vcallee_move, okKind_move, foot_move, vop_pick, vcallee_pick, okKind_pick, foot_pick, vop_load, vcallee_load, okKind_load, vop_binOp, vcallee_binOp, okKind_binOp, foot_binOp, vop_fieldAddr, vcallee_fieldAddr, okKind_fieldAddr, foot_fieldAddr, vop_indexAddr, vcallee_indexAddr, okKind_indexAddr, foot_indexAddr, foot_load, vcallee_value, vcal_fn, ptrNo_ptr, ptrNo_ip, bin2_tmp, bin2_int, vpick_bool, strip_pv, strip_ptr, strip_fn, strip_opt, vstr_true, optV_none, optV_some, pickV_bool, ev_tmp, ev_const, ev_func, ofConst_int, ofConst_bool, put_some, at_mk, fits_some, ↓look_cons, ↓vlook_t, ↓vlook_f, guard_none, guard_some, vgof_bool, vgof_opt, load_ptr, load_ip, vld_one, vld_agg, vldp_one, blk_zero, blk_succ, faddr_ptr, vfap_some, faddr_ip, vfai_some, iaddr_sl, bin_int, int_sub, int_lss, int_gtr, int_geq, okc_nil, okc_none, okc_other, okc_one, evG_eq, ↓vdr_cons, ↓dr1_some, ↓drG_true, ↓dr2_none, ↓dr2_some, ↓dr3_some, at_hp, List.map_nil, List.getElem?_cons_zero, List.getElem?_cons_succ, List.length_cons, List.length_nil, List.map_cons, List.map_nil, List.cons_append, List.nil_append, List.append_nil, List.take_succ_cons, List.take_nil, List.drop_zero, List.any_nil, List.any_cons, Option.map_some, Option.bind_some, ↓reduceIte, reduceCtorEq, Nat.reduceAdd, Nat.reduceLT, Nat.reduceBEq, Int.reduceLT, Int.reduceAdd, Int.reduceBEq, Nat.zero_add, Nat.add_zero, decide_false, true_and, and_true, and_self, and_false, or_true, or_false, or_self, Bool.not_true, Bool.not_false, Bool.or_true, Bool.or_false, Bool.and_true, Bool.true_and, Bool.and_false, Bool.or_self, Bool.and_self, cond_false, Bool.cond_self, beq_self_eq_true, Nat.le_refl, Try.vt3, Try.vt31, Try.velem31, Try.vt34, Try.vfield34x0, Try.vfield34x2, Try.vfield61x0, wrap_i64_in, dec_t, hidx, hs0, d1, d2, d3]
        refine vdc_call (hb1) rfl rfl ?_
        have hnin : ¬ (0 ≤ ad ∧ ad < 64) → viap (some (some 64, 4, 1)) 1 0 ad = none := fun h => viap_none h
        by_cases d5 : ad < pages
        · rw [hfail (by rw [hchk]; simp [show ¬ pages ≤ ad by omega])]
          by_cases hin : 0 ≤ ad ∧ ad < 64
          · have hug := usedL_get u ad.toNat (by omega)
            obtain ⟨hin1, hin2⟩ := hin
            simp (config := { maxSteps := 2000000 }) (implicitDefEqProofs := false) (disch := first | omega | assumption) only [vop_move, vcallee_move, vop_assign, vcallee_assign, okKind_assign, foot_assign, vop_pick, vcallee_pick, okKind_pick, foot_pick, vop_load, vcallee_load, vop_binOp, vcallee_binOp, vop_unOp, vcallee_unOp, okKind_unOp, foot_unOp, vop_fieldAddr, vcallee_fieldAddr, bin2_tmp, vpick_bool, strip_pv, strip_ptr, strip_tup, strip_opt, vstr_true, optV_none, optV_some, pickV_bool, ev_tmp, ev_const, ofConst_bool, put_some, at_mk, fits_some, ↓look_cons, ↓vlook_t, ↓vlook_f, guard_none, guard_some, vgof_bool, ↓vrun_nil, ↓vdr_nil, ↓code_region, ↓code_seq, ↓code_ret, ↓onNormal_normal, ↓onNormal_ret, ↓onBlock_ret, frz_pv, frzHeap_zero, res_one, vres_tmp, load_ptr, vld_one, blk_zero, blk_succ, faddr_ptr, vfap_some, bin_int, int_lss, un_not, okc_nil, okc_none, okc_other, evG_eq, ↓vrun_cons, ↓run1_some, ↓runG_true, ↓runG_false, ↓run2_none, ↓run3_some, ↓vdr_cons, ↓dr1_some, ↓drG_true, ↓dr2_none, ↓dr3_some, ↓drK_eq, ↓code_cond, ↓vtest_bool, ↓vbr_true, ↓vbr_false, ↓vpost_ret, vfin_some, vfin2_some, at_hp, pickV_t, List.getElem?_cons_zero, List.getElem?_cons_succ, List.cons_append, List.nil_append, Option.map_some, Option.bind_some, ↓reduceIte, reduceCtorEq, Nat.reduceAdd, Nat.reduceLT, Nat.reduceBEq, Int.reduceLT, Int.reduceAdd, Int.reduceBEq, Nat.zero_add, Nat.add_zero, and_self, or_true, Bool.not_true, Bool.not_false, Bool.or_true, Bool.and_self, b_beq_f, cond_false, beq_self_eq_true, Try.vt3, Try.vfield34x0, Try.vfield61x1, dec_t, Ret, DV.nums, d4, d5]
          · have hnn := hnin hin
            simp (config := { maxSteps := 2000000 }) (implicitDefEqProofs := false) (disch := first | omega | assumption) only [vop_move, vcallee_move, vop_assign, vcallee_assign, okKind_assign, foot_assign, vop_pick, vcallee_pick, okKind_pick, foot_pick, vop_load, vcallee_load, vop_binOp, vcallee_binOp, vop_unOp, vcallee_unOp, okKind_unOp, foot_unOp, vop_fieldAddr, vcallee_fieldAddr, bin2_tmp, vpick_bool, strip_pv, strip_ptr, strip_tup, strip_opt, vstr_true, optV_none, optV_some, pickV_bool, ev_tmp, ev_const, ofConst_bool, put_some, at_mk, fits_some, ↓look_cons, ↓vlook_t, ↓vlook_f, guard_none, guard_some, vgof_bool, ↓vrun_nil, ↓vdr_nil, ↓code_region, ↓code_seq, ↓code_ret, ↓onNormal_normal, ↓onNormal_ret, ↓onBlock_ret, frz_pv, frzHeap_zero, res_one, vres_tmp, load_ptr, vld_one, blk_zero, blk_succ, faddr_ptr, vfap_some, bin_int, int_lss, un_not, okc_nil, okc_none, okc_other, evG_eq, ↓vrun_cons, ↓run1_some, ↓runG_true, ↓runG_false, ↓run2_none, ↓run3_some, ↓vdr_cons, ↓dr1_some, ↓drG_true, ↓dr2_none, ↓dr3_some, ↓drK_eq, ↓code_cond, ↓vtest_bool, ↓vbr_true, ↓vbr_false, ↓vpost_ret, vfin_some, vfin2_some, at_hp, pickV_t, List.getElem?_cons_zero, List.getElem?_cons_succ, List.cons_append, List.nil_append, Option.map_some, Option.bind_some, ↓reduceIte, reduceCtorEq, Nat.reduceAdd, Nat.reduceLT, Nat.reduceBEq, Int.reduceLT, Int.reduceAdd, Int.reduceBEq, Nat.zero_add, Nat.add_zero, and_self, or_true, Bool.not_true, Bool.not_false, Bool.or_true, Bool.and_self, b_beq_f, cond_false, beq_self_eq_true, Try.vt3, Try.vfield34x0, Try.vfield61x1, dec_t, Ret, DV.nums, d4, d5]
        by_cases d6 : pages + spares ≤ ad
        · rw [hfail (by rw [hchk]; simp [show ¬ ad < pages + spares by omega])]
          by_cases hin : 0 ≤ ad ∧ ad < 64
          · have hug := usedL_get u ad.toNat (by omega)
            obtain ⟨hin1, hin2⟩ := hin
            simp (config := { maxSteps := 2000000 }) (implicitDefEqProofs := false) (disch := first | omega | assumption) only [vop_move, vcallee_move, vop_assign, vcallee_assign, okKind_assign, foot_assign, vop_pick, vcallee_pick, okKind_pick, foot_pick, vop_load, vcallee_load, vop_binOp, vcallee_binOp, vop_unOp, vcallee_unOp, okKind_unOp, foot_unOp, vop_fieldAddr, vcallee_fieldAddr, bin2_tmp, vpick_bool, strip_pv, strip_ptr, strip_tup, strip_opt, vstr_true, optV_none, optV_some, pickV_bool, ev_tmp, ev_const, ofConst_bool, put_some, at_mk, fits_some, ↓look_cons, ↓vlook_t, ↓vlook_f, guard_none, guard_some, vgof_bool, ↓vrun_nil, ↓vdr_nil, ↓code_region, ↓code_seq, ↓code_ret, ↓onNormal_normal, ↓onNormal_ret, ↓onBlock_ret, frz_pv, frzHeap_zero, res_one, vres_tmp, load_ptr, vld_one, blk_zero, blk_succ, faddr_ptr, vfap_some, bin_int, int_add, int_lss, int_geq, un_not, okc_nil, okc_none, okc_other, evG_eq, ↓vrun_cons, ↓run1_some, ↓runG_true, ↓runG_false, ↓run2_none, ↓run3_some, ↓vdr_cons, ↓dr1_some, ↓drG_true, ↓dr2_none, ↓dr3_some, ↓drK_eq, ↓code_cond, ↓vtest_bool, ↓vbr_true, ↓vbr_false, ↓vpost_ret, vfin_some, vfin2_some, at_hp, pickV_t, List.getElem?_cons_zero, List.getElem?_cons_succ, List.cons_append, List.nil_append, Option.map_some, Option.bind_some, ↓reduceIte, reduceCtorEq, Nat.reduceAdd, Nat.reduceLT, Nat.reduceBEq, Int.reduceLT, Int.reduceAdd, Int.reduceBEq, Nat.zero_add, Nat.add_zero, decide_false, and_self, or_true, Bool.not_true, Bool.not_false, Bool.or_true, Bool.and_self, b_beq_f, cond_false, Bool.cond_self, beq_self_eq_true, Try.vt3, Try.vfield34x0, Try.vfield34x1, Try.vfield61x1, wrap_i64_in, dec_t, Ret, DV.nums, d4, d5, d6]
          · have hnn := hnin hin
            simp (config := { maxSteps := 2000000 }) (implicitDefEqProofs := false) (disch := first | omega | assumption) only [vop_move, vcallee_move, vop_assign, vcallee_assign, okKind_assign, foot_assign, vop_pick, vcallee_pick, okKind_pick, foot_pick, vop_load, vcallee_load, vop_binOp, vcallee_binOp, vop_unOp, vcallee_unOp, okKind_unOp, foot_unOp, vop_fieldAddr, vcallee_fieldAddr, bin2_tmp, vpick_bool, strip_pv, strip_ptr, strip_tup, strip_opt, vstr_true, optV_none, optV_some, pickV_bool, ev_tmp, ev_const, ofConst_bool, put_some, at_mk, fits_some, ↓look_cons, ↓vlook_t, ↓vlook_f, guard_none, guard_some, vgof_bool, ↓vrun_nil, ↓vdr_nil, ↓code_region, ↓code_seq, ↓code_ret, ↓onNormal_normal, ↓onNormal_ret, ↓onBlock_ret, frz_pv, frzHeap_zero, res_one, vres_tmp, load_ptr, vld_one, blk_zero, blk_succ, faddr_ptr, vfap_some, bin_int, int_add, int_lss, int_geq, un_not, okc_nil, okc_none, okc_other, evG_eq, ↓vrun_cons, ↓run1_some, ↓runG_true, ↓runG_false, ↓run2_none, ↓run3_some, ↓vdr_cons, ↓dr1_some, ↓drG_true, ↓dr2_none, ↓dr3_some, ↓drK_eq, ↓code_cond, ↓vtest_bool, ↓vbr_true, ↓vbr_false, ↓vpost_ret, vfin_some, vfin2_some, at_hp, pickV_t, List.getElem?_cons_zero, List.getElem?_cons_succ, List.cons_append, List.nil_append, Option.map_some, Option.bind_some, ↓reduceIte, reduceCtorEq, Nat.reduceAdd, Nat.reduceLT, Nat.reduceBEq, Int.reduceLT, Int.reduceAdd, Int.reduceBEq, Nat.zero_add, Nat.add_zero, decide_false, and_self, or_true, Bool.not_true, Bool.not_false, Bool.or_true, Bool.and_self, b_beq_f, cond_false, Bool.cond_self, beq_self_eq_true, Try.vt3, Try.vfield34x0, Try.vfield34x1, Try.vfield61x1, wrap_i64_in, dec_t, Ret, DV.nums, d4, d5, d6]
        have hin1 : 0 ≤ ad := by omega
        have hin2 : ad < 64 := by omega
        have hug := usedL_get u ad.toNat (by omega)
        have hus := usedL_set u ad.toNat
        rw [show ((ad.toNat : Nat) : Int) = ad by omega] at hug hus
        by_cases d7 : ad ∈ bad
        · rw [hfail (by rw [hchk]; simp [d7])]
          simp (config := { maxSteps := 2000000 }) (implicitDefEqProofs := false) (disch := first | omega | assumption) only [vop_move, vcallee_move, vop_assign, vcallee_assign, okKind_assign, foot_assign, vop_pick, vcallee_pick, okKind_pick, foot_pick, vop_load, vcallee_load, vop_binOp, vcallee_binOp, vop_unOp, vcallee_unOp, okKind_unOp, foot_unOp, vop_fieldAddr, vcallee_fieldAddr, vcallee_value, vcal_fn, bin2_tmp, vpick_bool, strip_pv, strip_ptr, strip_fn, strip_opt, vstr_true, optV_none, optV_some, pickV_bool, ev_tmp, ev_const, ev_func, ofConst_bool, put_some, at_mk, fits_some, ↓look_cons, ↓vlook_t, ↓vlook_f, guard_none, guard_some, vgof_bool, ↓vdr_nil, ↓code_region, ↓code_seq, ↓onNormal_normal, load_ptr, vld_one, vld_agg, blk_zero, blk_succ, faddr_ptr, vfap_some, bin_int, int_add, int_lss, int_geq, un_not, okc_nil, okc_none, okc_other, evG_eq, ↓vrun_cons, ↓run1_some, ↓runG_true, ↓run2_none, ↓run2_some, ↓run3_some, ↓vdr_cons, ↓dr1_some, ↓drG_true, ↓dr2_none, ↓dr3_some, ↓drK_eq, ↓code_cond, ↓vtest_bool, ↓vbr_false, at_hp, List.map_nil, List.getElem?_cons_zero, List.getElem?_cons_succ, List.length_cons, List.length_nil, List.map_cons, List.map_nil, List.cons_append, List.nil_append, List.append_nil, List.take_succ_cons, List.take_nil, List.drop_zero, Option.map_some, Option.bind_some, ↓reduceIte, reduceCtorEq, Nat.reduceAdd, Nat.reduceLT, Nat.reduceBEq, Int.reduceLT, Int.reduceAdd, Int.reduceBEq, Nat.zero_add, Nat.add_zero, decide_false, true_and, or_true, Bool.not_true, Bool.not_false, Bool.or_true, Bool.true_and, cond_false, beq_self_eq_true, Nat.le_refl, Try.vt3, Try.vt34, Try.vfield34x0, Try.vfield34x1, Try.vfield61x1, wrap_i64_in, dec_t, d4, d5, d6]
          refine vc_pure (hb2) rfl ?_
          simp (config := { maxSteps := 2000000 }) (implicitDefEqProofs := false) (disch := first | omega | assumption) only [vop_move, vcallee_move, vop_assign, vcallee_assign, vop_pick, vcallee_pick, vpick_bool, strip_pv, strip_tup, strip_opt, vstr_true, optV_none, optV_some, pickV_bool, ev_tmp, ev_const, ofConst_bool, put_some, at_mk, fits_some, ↓look_cons, ↓vlook_t, ↓vlook_f, guard_none, guard_some, vgof_bool, ↓vrun_nil, ↓code_region, ↓code_seq, ↓code_ret, ↓onNormal_normal, ↓onNormal_ret, ↓onBlock_ret, frz_pv, frzHeap_zero, res_one, vres_tmp, evG_eq, ↓vrun_cons, ↓run1_some, ↓runG_true, ↓runG_false, ↓run2_none, ↓run3_some, ↓runK_eq, ↓code_cond, ↓vtest_bool, ↓vbr_true, ↓vpost_ret, vfin_some, vfin2_some, at_hp, pickV_t, List.getElem?_cons_zero, List.getElem?_cons_succ, Option.map_some, Option.bind_some, Nat.reduceLT, Nat.reduceBEq, Int.reduceLT, Int.reduceBEq, and_self, or_true, Bool.not_true, Bool.not_false, Bool.or_true, Bool.and_self, b_beq_f, Bool.cond_self, beq_self_eq_true, dec_t, Ret, DV.nums, d7]
        by_cases d8 : ad ∈ u
        · rw [hfail (by rw [hchk]; simp [d8])]
          simp (config := { maxSteps := 2000000 }) (implicitDefEqProofs := false) (disch := first | omega | assumption) only [vop_move, vcallee_move, vop_assign, vcallee_assign, okKind_assign, foot_assign, vop_pick, vcallee_pick, okKind_pick, foot_pick, vop_load, vcallee_load, vop_binOp, vcallee_binOp, vop_unOp, vcallee_unOp, okKind_unOp, foot_unOp, vop_fieldAddr, vcallee_fieldAddr, vcallee_value, vcal_fn, bin2_tmp, vpick_bool, strip_pv, strip_ptr, strip_fn, strip_opt, vstr_true, optV_none, optV_some, pickV_bool, ev_tmp, ev_const, ev_func, ofConst_bool, put_some, at_mk, fits_some, ↓look_cons, ↓vlook_t, ↓vlook_f, guard_none, guard_some, vgof_bool, ↓vdr_nil, ↓code_region, ↓code_seq, ↓onNormal_normal, load_ptr, vld_one, vld_agg, blk_zero, blk_succ, faddr_ptr, vfap_some, bin_int, int_add, int_lss, int_geq, un_not, okc_nil, okc_none, okc_other, evG_eq, ↓vrun_cons, ↓run1_some, ↓runG_true, ↓run2_none, ↓run2_some, ↓run3_some, ↓vdr_cons, ↓dr1_some, ↓drG_true, ↓dr2_none, ↓dr3_some, ↓drK_eq, ↓code_cond, ↓vtest_bool, ↓vbr_false, at_hp, List.map_nil, List.getElem?_cons_zero, List.getElem?_cons_succ, List.length_cons, List.length_nil, List.map_cons, List.map_nil, List.cons_append, List.nil_append, List.append_nil, List.take_succ_cons, List.take_nil, List.drop_zero, Option.map_some, Option.bind_some, ↓reduceIte, reduceCtorEq, Nat.reduceAdd, Nat.reduceLT, Nat.reduceBEq, Int.reduceLT, Int.reduceAdd, Int.reduceBEq, Nat.zero_add, Nat.add_zero, decide_false, true_and, or_true, Bool.not_true, Bool.not_false, Bool.or_true, Bool.true_and, cond_false, beq_self_eq_true, Nat.le_refl, Try.vt3, Try.vt34, Try.vfield34x0, Try.vfield34x1, Try.vfield61x1, wrap_i64_in, dec_t, d4, d5, d6]
          refine vc_pure (hb2) rfl ?_
          simp (config := { maxSteps := 2000000 }) (implicitDefEqProofs := false) (disch := first | omega | assumption) only [vop_move, vcallee_move, vop_assign, vcallee_assign, vop_pick, vcallee_pick, vop_load, vcallee_load, vop_fieldAddr, vcallee_fieldAddr, vop_indexAddr, vcallee_indexAddr, vpick_bool, strip_pv, strip_ptr, strip_opt, vstr_true, optV_none, optV_some, pickV_bool, ev_tmp, ev_const, ofConst_bool, put_some, at_mk, fits_some, ↓look_cons, ↓vlook_t, ↓vlook_f, guard_none, guard_some, vgof_bool, ↓vrun_nil, ↓code_region, ↓code_seq, ↓code_ret, ↓onNormal_normal, ↓onNormal_ret, ↓onBlock_ret, frz_pv, frzHeap_zero, res_one, vres_tmp, load_ptr, vld_one, blk_zero, blk_succ, faddr_ptr, vfap_some, iaddr_ptr, viap_some, evG_eq, ↓vrun_cons, ↓run1_some, ↓runG_true, ↓run2_none, ↓run3_some, ↓runK_eq, ↓code_cond, ↓vtest_bool, ↓vbr_true, ↓vpost_ret, vfin_some, vfin2_some, at_hp, List.getElem?_cons_zero, List.getElem?_cons_succ, Option.map_some, Option.bind_some, ↓reduceIte, reduceCtorEq, Nat.reduceLT, Nat.reduceBEq, Int.reduceLT, Int.reduceBEq, Nat.zero_add, Nat.mul_one, decide_false, and_self, or_true, Bool.not_true, Bool.not_false, Bool.or_true, Bool.and_self, cond_false, Bool.cond_self, beq_self_eq_true, Try.vt3, Try.vt4, Try.vfield61x1, Try.velem72, dec_t, Ret, DV.nums, hug, d7, d8]
        obtain ⟨t, ht1⟩ := step (by rw [hchk]; simp [c0, d4, d7, d8]; omega)
        have hadn : ad.toNat < 64 := by omega
        simp (config := { maxSteps := 2000000 }) (implicitDefEqProofs := false) (disch := first | omega | assumption) only [vop_move, vcallee_move, vop_assign, vcallee_assign, okKind_assign, foot_assign, vop_pick, vcallee_pick, okKind_pick, foot_pick, vop_load, vcallee_load, vop_binOp, vcallee_binOp, vop_unOp, vcallee_unOp, okKind_unOp, foot_unOp, vop_fieldAddr, vcallee_fieldAddr, vcallee_value, vcal_fn, bin2_tmp, vpick_bool, strip_pv, strip_ptr, strip_fn, strip_opt, vstr_true, optV_none, optV_some, pickV_bool, ev_tmp, ev_const, ev_func, ofConst_bool, put_some, at_mk, fits_some, ↓look_cons, ↓vlook_t, ↓vlook_f, guard_none, guard_some, vgof_bool, ↓vdr_nil, ↓code_region, ↓code_seq, ↓onNormal_normal, load_ptr, vld_one, vld_agg, blk_zero, blk_succ, faddr_ptr, vfap_some, bin_int, int_add, int_lss, int_geq, un_not, okc_nil, okc_none, okc_other, evG_eq, ↓vrun_cons, ↓run1_some, ↓runG_true, ↓run2_none, ↓run2_some, ↓run3_some, ↓vdr_cons, ↓dr1_some, ↓drG_true, ↓dr2_none, ↓dr3_some, ↓drK_eq, ↓code_cond, ↓vtest_bool, ↓vbr_false, at_hp, List.map_nil, List.getElem?_cons_zero, List.getElem?_cons_succ, List.length_cons, List.length_nil, List.map_cons, List.map_nil, List.cons_append, List.nil_append, List.append_nil, List.take_succ_cons, List.take_nil, List.drop_zero, Option.map_some, Option.bind_some, ↓reduceIte, reduceCtorEq, Nat.reduceAdd, Nat.reduceLT, Nat.reduceBEq, Int.reduceLT, Int.reduceAdd, Int.reduceBEq, Nat.zero_add, Nat.add_zero, decide_false, true_and, or_true, Bool.not_true, Bool.not_false, Bool.or_true, Bool.true_and, cond_false, beq_self_eq_true, Nat.le_refl, Try.vt3, Try.vt34, Try.vfield34x0, Try.vfield34x1, Try.vfield61x1, wrap_i64_in, dec_t, d4, d5, d6]
        refine vc_pure (hb2) rfl ?_
        simp (config := { maxSteps := 2000000 }) (implicitDefEqProofs := false) (disch := first | omega | assumption) only [vop_move, vcallee_move, vop_assign, vcallee_assign, vop_pick, vcallee_pick, vop_load, vcallee_load, vop_store, vcallee_store, vop_binOp, vcallee_binOp, vop_fieldAddr, vcallee_fieldAddr, vop_indexAddr, vcallee_indexAddr, bin2_int, vpick_bool, strip_pv, strip_ptr, strip_opt, vstr_true, optV_none, optV_some, pickV_bool, ev_tmp, ev_const, ofConst_int, ofConst_bool, put_some, put_none, at_mk, fits_some, fits_none, ↓look_cons, ↓vlook_t, ↓vlook_f, guard_none, guard_some, vgof_bool, ↓vrun_nil, ↓code_skip, ↓code_region, ↓onNormal_normal, ↓onBlock_normal, load_ptr, vld_one, store_ptr, vst_one, blk_zero, blk_succ, set_zero, set_succ, one_pv, faddr_ptr, vfap_some, iaddr_ptr, viap_some, bin_int, int_add, evG_eq, ↓vrun_cons, ↓run1_some, ↓runG_true, ↓run2_none, ↓run3_some, ↓runK_eq, ↓code_cond, ↓vtest_bool, ↓vbr_false, at_hp, List.getElem?_cons_zero, List.getElem?_cons_succ, Option.map_some, Option.bind_some, ↓reduceIte, reduceCtorEq, Nat.reduceLT, Nat.reduceBEq, Int.reduceLT, Int.reduceBEq, Nat.zero_add, Nat.mul_one, decide_false, true_and, and_self, or_true, Bool.not_true, Bool.not_false, Bool.or_true, Bool.true_and, Bool.and_self, cond_false, beq_self_eq_true, cellsB_len, Try.vt3, Try.vt4, Try.vfield61x1, Try.velem72, wrap_i64_in, dec_t, hug, d7, d8, cellsB_len, usedL_len, hadn, hus]
        refine ⟨t, by rw [ht1]; omega, ?_⟩
        rw [ht1, htk]
        exact (by refine gc_of (keep := [0, 1]) rfl rfl rfl (by decide) ?_ ?_ <;> (repeat' apply And.intro) <;> first | trivial | rfl | exact ⟨_, rfl, rfl, rfl, .inl ⟨rfl, rfl⟩⟩ | exact ⟨_, rfl, rfl, rfl, .inl ⟨cells_nums _ _ _, rfl⟩⟩ | exact ⟨_, rfl, rfl, rfl, .inl ⟨pvs_nums _ _, rfl⟩⟩ | exact ⟨_, rfl, rfl, rfl, .inr ⟨rfl, rfl⟩⟩)
    · have hallP := s2.all (by omega)
      have e : Rm.okB ⟨pages, spares, places, bad⟩ = (n == places.length) := by
        rw [Rm.okB, hhead]
        dsimp only
        rw [hallB, hallP, hn]; simp
      rw [e]
      have eb : ((n : Int) == (places.length : Int)) = (n == places.length) := by
        by_cases h : n = places.length
        · rw [h]; simp
        · rw [beq_eq_false_iff_ne.2 h, beq_eq_false_iff_ne]; omega
      simp (config := { maxSteps := 2000000 }) (implicitDefEqProofs := false) (disch := first | omega | assumption) only [vop_move, vcallee_move, vop_assign, vcallee_assign, vop_load, vcallee_load, vop_binOp, vcallee_binOp, vop_fieldAddr, vcallee_fieldAddr, vop_builtin, vcallee_builtin, bin2_tmp, strip_pv, strip_ptr, optV_none, ev_tmp, put_some, at_mk, fits_some, ↓look_cons, ↓vlook_t, ↓vlook_f, guard_none, ↓vrun_nil, ↓code_region, ↓code_seq, ↓code_exit, ↓code_ret, ↓onNormal_normal, ↓onNormal_exit, ↓onBlock_exit, frz_pv, frzHeap_zero, res_one, vres_tmp, load_ptr, vld_one, blk_zero, faddr_ptr, vfap_some, bin_int, int_eql, len_sl, vlk_sl, bi_len, evG_eq, ↓vrun_cons, ↓run1_some, ↓runG_true, ↓run2_none, ↓run3_some, ↓vpost_ret, vfin_some, vfin2_some, at_hp, List.map_nil, List.getElem?_cons_zero, List.getElem?_cons_succ, List.map_cons, List.map_nil, Option.map_some, ↓reduceIte, reduceCtorEq, Nat.reduceLT, Nat.reduceBEq, Int.reduceLT, Int.reduceBEq, Nat.zero_add, and_self, Bool.and_self, beq_self_eq_true, fz_len, Try.vt31, Try.vkind31, Try.vfield34x2, dec_t, dec_f, Ret, DV.nums, eb]
end Go.Proofs.Ytnilcppifcekmaa
namespace Go.Proofs.Ytnilcppifcekmaa
open Go.V Go
theorem lenP (l : List Pl) : (cells encP l).length = l.length * 2 := cells_len encP l
theorem allP (l : List Pl) (n : Nat) (h : l.length * 2 ≤ n) : (cells encP l).take n = cells encP l := by rw [List.take_of_length_le]; rw [lenP]; exact h
theorem srcP (l : List Pl) : (fz encP l = [] ∨ (fz encP l)[0]?.map List.length = some 2) = True := fz_src encP l
theorem frzP {n : Nat} {hp : Heap} {len : Nat} {l : List Pl} (h : l.length = len) : frzC n hp 0 2 len (some (cells encP l)) = some (.sl (fz encP l)) := frzC_cells encP h
theorem app_P (l : List Pl) (a b : Int) : cells encP l ++ [.pv (.lit (.int .i64 a)), .pv (.lit (.int .i64 b))] = cells encP (l ++ [⟨a, b⟩]) := by rw [cells_app]; rfl
theorem wk_P (l : List Pl) : DV.wk.go (cells encP l) = cells encP l := wk_cells encP l fun a p hp => by
  simp [encP] at hp
  rcases hp with h | h <;> subst h <;> rfl
attribute [go_sem] lenP allP srcP frzP app_P wk_P
def cuB (t : List UInt8) (p : Nat) : Blk := ⟨99, true, [.pv (.str (t.drop p)), .bool (decide (t.length < p))]⟩
theorem cuB_nums (t : List UInt8) (p : Nat) : DV.nums.go (fun _ => false) (cuB t p).cells = true := rfl
abbrev CUX (t : List UInt8) (v : DV) (q : Nat) : DV → Heap → Prop := fun r h' => ∃ B', h' = [B'] ∧ B'.live = true ∧ DV.nums.go (fun _ => false) B'.cells = true ∧ r.nums (fun _ => false) = true ∧ (r = v ∧ B' = cuB t q)
theorem vc_cu {g : FuncId} {args : List DV} {hp : Heap} {k : Nat} {t : List UInt8} {p q : Nat} {v : DV} {K : DV → Heap → Prop} (h : VCalls Try.prog g (args.map (DV.ren fun _ => 0)) [cuB t p] (CUX t v q)) (hk : hp[k]? = some (cuB t p))
    (ha : DV.nums.go (fun i => i == k) args = true) (hK : K v (hp.set k (cuB t q))) : VCalls Try.prog g args hp K :=
  (VCalls.ptr1 (R := fun x B' => x = v ∧ B' = cuB t q) hk rfl (cuB_nums t p) h ha).mono fun x h' ⟨B', e1, _, _, e2, e3⟩ => by subst e1 e2 e3; exact hK
theorem cnext_v (t : List UInt8) (ht : t.length ≤ 100000) (p : Nat) : VCalls Try.prog 53 [.ptr 0 0] [cuB t p] (CUX t (.int .i64 (nb t p)) (p + 1)) := by
  refine dd Try.func53 ?_
  by_cases h : p < t.length
  · have hd : t.drop p = t.getD p 0 :: t.drop (p + 1) := by rw [List.drop_eq_getElem_cons h, List.getD_eq_getElem?_getD, List.getElem?_eq_getElem h]; rfl
    have e1 : decide (t.length < p) = false := decide_eq_false (by omega)
    have e2 : decide (t.length < p + 1) = false := decide_eq_false (by omega)
    have hl : (t.drop (p + 1)).length ≤ 100000 := by rw [List.length_drop]; omega
    have hn : nb t p = (t.getD p 0).toNat := rfl
    generalize t.getD p 0 = b at *
    have hB : cuB t p = ⟨99, true, [.pv (.str (b :: t.drop (p + 1))), .bool false]⟩ := by unfold cuB; rw [hd, e1]
    have hB2 : cuB t (p + 1) = ⟨99, true, [.pv (.str (t.drop (p + 1))), .bool false]⟩ := by unfold cuB; rw [e2]
    rw [hB]
    generalize t.drop (p + 1) = u at *
    (unfold Try.f53; refine rn trivial ?_)
    have F := trivial
    refine rn F ?_
    repeat' (first
      | with_reducible exact True.intro
      | (refine sB F ?_ ?_ <;> intro hZ))
    · cases hZ
    · have hw : IntKind.i64.wrap (b.toNat : Int) = b.toNat := by have := UInt8.toNat_lt b; rw [IntKind.wrap_i64] <;> omega
      exact ⟨_, rfl, rfl, rfl, rfl, by rw [hn, hw], by rw [hB2]⟩
  · have hd : t.drop p = [] := List.drop_of_length_le (by omega)
    have hd2 : t.drop (p + 1) = [] := List.drop_of_length_le (by omega)
    have hn : nb t p = 0 := by unfold nb; rw [List.getD_eq_getElem?_getD, List.getElem?_eq_none (by omega)]; rfl
    have e2 : decide (t.length < p + 1) = true := decide_eq_true (by omega)
    have hB : cuB t p = ⟨99, true, [.pv (.str []), .bool (decide (t.length < p))]⟩ := by unfold cuB; rw [hd]
    have hB2 : cuB t (p + 1) = ⟨99, true, [.pv (.str []), .bool true]⟩ := by unfold cuB; rw [hd2, e2]
    rw [hB]
    generalize decide (t.length < p) = b at *
    (unfold Try.f53; refine rn trivial ?_)
    have F := trivial
    (refine rn F ?_; try with_reducible exact True.intro)
    all_goals exact ⟨_, rfl, rfl, rfl, rfl, by rw [hn]; rfl, by rw [hB2]⟩
theorem read_v (s : List UInt8) (hs : s.length ≤ 100000) : VCalls Try.prog 30 [.pv (.str s)] [] (RetS (fun a : Rm × Bool => .tup [.agg a.1.c, .bool a.2]) fun a => a.2 = blobB s ∧ (a.2 = true → a.1 = rdQ (s.drop 2))) := by
  refine dk Try.func30 ?_
  (unfold Try.f30; refine rn trivial ?_)
  have no : blobB s = false → RetS (fun a : Rm × Bool => .tup [.agg a.1.c, .bool a.2]) (fun a => a.2 = blobB s ∧ (a.2 = true → a.1 = rdQ (s.drop 2))) (.tup [.agg [.int .i64 0, .int .i64 0, .pv (.sl []), .pv (.sl [])], .bool false]) [] := fun h => ⟨rfl, rfl, (⟨0, 0, [], []⟩, false), rfl, by rw [h], fun h => by cases h⟩
  have hnb : s.take 2 ≠ [81, 77] → blobB s = false := fun h => by unfold blobB; rw [decide_eq_false h]; rfl
  have F := trivial
  refine rn F ?_
  repeat' (first
    | with_reducible exact True.intro
    | (refine sG F ?_ ?_ <;> intro hZ)
    | (refine sB F ?_ ?_ <;> intro hZ))
  · exact no (hnb (by assumption))
  rotate_left
  · exact no (hnb fun h => by have := congrArg List.length h; rw [List.length_take] at this; simp at this; omega)
  have ht : (s.drop 2).length ≤ 100000 := by rw [List.length_drop]; omega
  have hbl : blobB s = rdOk (s.drop 2) := by unfold blobB; rw [decide_eq_true (by assumption)]; rfl
  generalize s.drop 2 = t at *
  have e0 : (⟨99, true, [.pv (.str t), .bool false]⟩ : Blk) = cuB t 0 := by unfold cuB; simp
  rw [hbl] at *
  rw [show ([⟨34, true, [.int .i64 0, .int .i64 0, .pv (.slc []), .pv (.slc [])]⟩, ⟨99, true, [.pv (.str t), .bool false]⟩] : Heap) = [⟨34, true, [.int .i64 0, .int .i64 0, .pv (.slc []), .pv (.slc [])]⟩, cuB t 0] from by rw [e0]]
  refine vc_cu (k := 1) (cnext_v t ht 0) rfl rfl ?_
  refine rn trivial ?_
  refine vc_cu (k := 1) (cnext_v t ht 1) rfl rfl ?_
  refine rn trivial ?_
  refine vc_cu (k := 1) (cnext_v t ht 2) rfl rfl ?_
  refine rn trivial ?_
  refine VLoop.nilOwnC 2 2 61 2 rfl rfl ?_
  refine rn trivial ?_
  have hn := UInt8.toNat_lt (t.getD 2 0)
  have hn2 : nb t 2 = (t.getD 2 0).toNat := rfl
  rw [← hn2] at hn
  have hN : rdN t = nb t 2 := rfl
  generalize nb t 2 = n at *
  refine vloopW (fun s : To n => ⟨60, 0, [(6, .int .i64 (n - s.i : Nat)), (5, .ptr 2 0), (4, .ptr 1 0), (2, .ptr 0 0)], [⟨34, true, [.int .i64 0, .int .i64 0, .pv (.slc []), .pv (.slc [])]⟩, cuB t (3 + 2 * s.i), ⟨34, true, [.int .i64 (nb t 0), .int .i64 (nb t 1), .own 3 2 0 (rdP t s.i).length, .pv (.slc [])]⟩, ⟨61, true, cells encP (rdP t s.i)⟩]⟩) (fun s => n - s.i) ⟨0, Nat.zero_le _⟩ (gc [0, 1, 2, 3]) ?_
  rintro ⟨i, hi⟩
  dsimp only
  have hpl : (rdP t i).length = i := by simp [rdP]
  have hb : ((rdP t i).length + 1) * 16 ≤ 140737488355328 := by omega
  by_cases hin : i < n
  · have hpos : (0 : Int) < ((n - i : Nat) : Int) := by omega
    have hdec : ((n - i : Nat) : Int) - 1 = (n - (i + 1) : Nat) := by omega
    have hsu : rdP t i ++ [⟨nb t (3 + 2 * i), nb t (3 + 2 * i + 1)⟩] = rdP t (i + 1) := by
      simp only [rdP, List.range_succ, List.map_append, List.map_cons, List.map_nil]
      rw [show 4 + 2 * i = 3 + 2 * i + 1 by omega]
    have F := (And.intro @hpos @hb)
    refine rn F ?_
    repeat' (first
      | with_reducible exact True.intro
      | (refine vspine (id := 8) [0, 1] [⟨[], [], 2, [0, 1], []⟩, ⟨[], [], 3, [0, 1], [4]⟩, ⟨[5], [5], 6, [0, 4], [7]⟩, ⟨[], [], 8, [], []⟩] (by kernel_rfl) (by kernel_rfl) ?_; refine rn F ?_))
    refine vc_cu (k := 1) (cnext_v t ht (3 + 2 * i)) rfl rfl ?_
    have F := (And.intro @hpos @hb)
    refine rn F ?_
    refine vc_cu (k := 1) (cnext_v t ht (3 + 2 * i + 1)) rfl rfl ?_
    have F := (And.intro @hpos (And.intro @hb @hdec))
    refine rn F ?_
    refine ⟨⟨i + 1, hin⟩, by dsimp only; omega, ?_⟩
    dsimp only
    rw [← hsu, List.length_append, List.length_singleton, show 3 + 2 * (i + 1) = 3 + 2 * i + 1 + 1 by omega]
    exact (gc [0, 1, 2, 5])
  obtain rfl : i = n := by omega
  have hz : ¬ (0 : Int) < ((i - i : Nat) : Int) := by omega
  have F := @hz
  refine rn F ?_
  refine vc_cu (k := 1) (cnext_v t ht (3 + 2 * i)) rfl rfl ?_
  have F := @hz
  refine rn F ?_
  refine VLoop.nilOwnC 2 3 3 1 rfl rfl ?_
  refine rn trivial ?_
  have hm := UInt8.toNat_lt (t.getD (3 + 2 * i) 0)
  have hm2 : nb t (3 + 2 * i) = (t.getD (3 + 2 * i) 0).toNat := rfl
  rw [← hm2] at hm
  have hM : rdM t = nb t (3 + 2 * i) := by unfold rdM; rw [hN]
  generalize nb t (3 + 2 * i) = m at *
  refine vloopW (fun s : To m => ⟨60, 0, [(7, .int .i64 (m - s.i : Nat)), (5, .ptr 2 0), (4, .ptr 1 0), (2, .ptr 0 0)], [⟨34, true, [.int .i64 0, .int .i64 0, .pv (.slc []), .pv (.slc [])]⟩, cuB t (4 + 2 * i + s.i), ⟨34, true, [.int .i64 (nb t 0), .int .i64 (nb t 1), .own 3 2 0 (rdP t i).length, .own 4 1 0 (rdB t i s.i).length]⟩, ⟨61, true, cells encP (rdP t i)⟩, ⟨3, true, cells encI (rdB t i s.i)⟩]⟩) (fun s => m - s.i) ⟨0, Nat.zero_le _⟩ (by dsimp only; rw [show 4 + 2 * i + 0 = 3 + 2 * i + 1 by omega]; exact (gc [0, 1, 2, 3, 4])) ?_
  rintro ⟨j, hj⟩
  dsimp only
  have hbl2 : (rdB t i j).length = j := by simp [rdB]
  have hb2 : ((rdB t i j).length + 1) * 8 ≤ 140737488355328 := by omega
  by_cases hjm : j < m
  · have hpos : (0 : Int) < ((m - j : Nat) : Int) := by omega
    have hdec : ((m - j : Nat) : Int) - 1 = (m - (j + 1) : Nat) := by omega
    have hsu : rdB t i j ++ [(nb t (4 + 2 * i + j) : Int)] = rdB t i (j + 1) := by
      simp only [rdB, List.range_succ, List.map_append, List.map_cons, List.map_nil]
    have F := (And.intro @hpos @hb2)
    refine rn F ?_
    repeat' (first
      | with_reducible exact True.intro
      | (refine vspine (id := 12) [0, 1] [⟨[], [], 2, [0, 1], []⟩, ⟨[3], [3], 4, [0], [5]⟩, ⟨[], [], 6, [], []⟩] (by kernel_rfl) (by kernel_rfl) ?_; refine rn F ?_))
    refine vc_cu (k := 1) (cnext_v t ht (4 + 2 * i + j)) rfl rfl ?_
    have F := (And.intro @hpos (And.intro @hb2 @hdec))
    refine rn F ?_
    refine ⟨⟨j + 1, hjm⟩, by dsimp only; omega, ?_⟩
    dsimp only
    rw [← hsu, List.length_append, List.length_singleton]
    exact (gc [0, 1, 2, 3, 6])
  obtain rfl : j = m := by omega
  have hz : ¬ (0 : Int) < ((j - j : Nat) : Int) := by omega
  have hv := qvalid_v (rdQ t) ⟨by simp [rdQ, rdP, hN]; omega, by simp [rdQ, rdB, hM]; omega⟩
  unfold rdQ Rm.d at hv
  rw [hM, hN] at hv
  dsimp only at hv
  have hok : rdOk t = (decide (t.length = 4 + 2 * i + j) && (rdQ t).okB) := by unfold rdOk; rw [hN, hM]
  have hQ : rdQ t = ⟨nb t 0, nb t 1, rdP t i, rdB t i j⟩ := by unfold rdQ; rw [hM, hN]
  have hcu : cuB t (4 + 2 * i + j) = ⟨99, true, [.pv (.str (t.drop (4 + 2 * i + j))), .bool (decide (t.length < 4 + 2 * i + j))]⟩ := rfl
  rw [hcu]
  generalize hp : 4 + 2 * i + j = p at *
  rw [← hQ] at hv
  generalize hokq : (rdQ t).okB = b at *
  by_cases hlt : t.length < p
  · rw [decide_eq_true hlt, List.drop_of_length_le (by omega : t.length ≤ p)]
    have F := @hz
    refine rn F ?_
    repeat' (first
      | with_reducible exact True.intro
      | (refine vspine (id := 13) [0, 1, 2, 3, 4, 5, 6, 7, 8, 9, 10] [⟨[], [], 11, [0, 1, 2, 3, 4, 5, 6, 7, 8], [12]⟩, ⟨[], [], 13, [1, 2, 3, 4, 5, 6, 7, 8, 9, 10, 12], []⟩, ⟨[], [], 14, [], []⟩] (by kernel_rfl) (by kernel_rfl) ?_; refine rn F ?_))
    exact ⟨rfl, rfl, (⟨nb t 0, nb t 1, rdP t i, rdB t i j⟩, false), rfl, by rw [hok, decide_eq_false (by omega)]; rfl, fun _ => hQ.symm⟩
  by_cases hgt : p < t.length
  · have hne : ¬ t.drop p = [] := fun h => by have := congrArg List.length h; rw [List.length_drop] at this; simp at this; omega
    rw [decide_eq_false hlt]
    generalize t.drop p = u at *
    have F := (And.intro @hz @hne)
    refine rn F ?_
    repeat' (first
      | with_reducible exact True.intro
      | (refine sG F ?_ ?_ <;> intro hZ)
      | refine vl F (hv) ?_
      | (refine vspine (id := 13) [0, 1, 2, 3, 4, 5, 6, 7, 8, 9, 10] [⟨[], [], 11, [0, 1, 2, 3, 4, 5, 6, 7, 8], [12]⟩, ⟨[], [], 13, [1, 2, 3, 4, 5, 6, 7, 8, 9, 10, 12], []⟩, ⟨[], [], 14, [], []⟩] (by kernel_rfl) (by kernel_rfl) ?_; refine rn F ?_))
    all_goals first | (exfalso; exact hne (by assumption)) | exact ⟨rfl, rfl, (⟨nb t 0, nb t 1, rdP t i, rdB t i j⟩, false), rfl, by rw [hok, decide_eq_false (by omega)]; rfl, fun _ => hQ.symm⟩
  rw [decide_eq_false hlt, List.drop_of_length_le (by omega : t.length ≤ p)]
  have F := @hz
  refine rn F ?_
  repeat' (first
    | with_reducible exact True.intro
    | refine vl F (hv) ?_
    | (refine vspine (id := 13) [0, 1, 2, 3, 4, 5, 6, 7, 8, 9, 10] [⟨[], [], 11, [0, 1, 2, 3, 4, 5, 6, 7, 8], [12]⟩, ⟨[], [], 13, [1, 2, 3, 4, 5, 6, 7, 8, 9, 10, 12], []⟩, ⟨[], [], 14, [], []⟩] (by kernel_rfl) (by kernel_rfl) ?_; refine rn F ?_))
  exact ⟨rfl, rfl, (⟨nb t 0, nb t 1, rdP t i, rdB t i j⟩, b), rfl, by rw [hok, decide_eq_true (by omega)]; rfl, fun _ => hQ.symm⟩
end Go.Proofs.Ytnilcppifcekmaa
namespace Go.Proofs.Ytnilcppifcekmaa
open Go.V Go
structure Rm.Ok (r : Rm) : Prop where
  p1 : 1 ≤ r.pages
  p2 : r.pages ≤ 64
  s1 : 0 ≤ r.spares
  s2 : r.spares ≤ 16
  s3 : r.pages + r.spares ≤ 64
  basc : r.bad.Pairwise (· < ·)
  brng : ∀ x ∈ r.bad, 0 ≤ x ∧ x < r.pages + r.spares
  pasc : (r.places.map (·.pg)).Pairwise (· < ·)
  prng : ∀ p ∈ r.places, 0 ≤ p.pg ∧ p.pg < r.pages ∧ p.pg ∈ r.bad ∧ r.pages ≤ p.ad ∧ p.ad < r.pages + r.spares ∧ ¬ p.ad ∈ r.bad
  adnd : (r.places.map (·.ad)).Nodup
  own : (r.bad.filter fun x => decide (x < r.pages)).length = r.places.length
theorem getD_eqQ {α : Type} (l : List α) (i : Nat) (h : i < l.length) (d : α) : l.getD i d = l[i] := by rw [List.getD_eq_getElem?_getD, List.getElem?_eq_getElem h]; rfl
theorem nodup_take {α : Type} (l : List α) (h : ∀ i, ∀ hi : i < l.length, ¬ l[i] ∈ l.take i) : l.Nodup := by
  rw [List.Nodup, List.pairwise_iff_getElem]
  intro i j hi hj hij e
  exact h j hj (List.mem_take_iff_getElem.2 ⟨i, by omega, e⟩)
theorem ok_iff (r : Rm) : r.okB = true ↔ r.Ok := by
  constructor
  · intro h
    simp only [Rm.okB, Bool.and_eq_true] at h
    obtain ⟨⟨⟨h1, h2⟩, h3⟩, h4⟩ := h
    have hb := bad_asc r h2
    simp only [Rm.headB, Bool.and_eq_true, decide_eq_true_eq] at h1
    rw [List.all_eq_true] at h2 h3
    have h3' : ∀ i, ∀ hi : i < r.places.length, (0 ≤ r.places[i].pg ∧ r.places[i].pg < r.pages ∧ r.places[i].pg ∈ r.bad ∧ r.pages ≤ r.places[i].ad ∧ r.places[i].ad < r.pages + r.spares ∧ ¬ r.places[i].ad ∈ r.bad) ∧ (i = 0 ∨ (r.places.getD (i - 1) P0).pg < r.places[i].pg) ∧ ¬ r.places[i].ad ∈ (r.places.take i).map (·.ad) := fun i hi => by
      have := h3 i (by rwa [List.mem_range])
      simp only [Rm.chkP, getD_eqQ r.places i hi, Bool.and_eq_true, Bool.or_eq_true, Bool.not_eq_true', decide_eq_true_eq, decide_eq_false_iff_not] at this
      obtain ⟨⟨⟨⟨⟨⟨⟨a, b⟩, c⟩, d⟩, e⟩, f⟩, g⟩, k⟩ := this
      exact ⟨⟨a, b, d, e, f, g⟩, c, k⟩
    refine ⟨h1.1.1.1.1, h1.1.1.1.2, h1.1.1.2, h1.1.2, h1.2, hb, fun x hx => ?_, ?_, fun p hp => ?_, ?_, ?_⟩
    · obtain ⟨i, hi, rfl⟩ := List.getElem_of_mem hx
      have := h2 i (by rwa [List.mem_range])
      simp only [Rm.chkB, getD_eqQ r.bad i hi, Bool.and_eq_true, decide_eq_true_eq] at this
      exact this.1
    · refine fore_of _ fun i hi => ?_
      rw [List.length_map] at hi
      rcases Nat.eq_zero_or_pos i with h0 | h0
      · exact .inl h0
      · refine .inr ?_
        have := (h3' i hi).2.1
        rw [getD_eqQ _ i (by rwa [List.length_map]), getD_eqQ _ (i - 1) (by rw [List.length_map]; omega), List.getElem_map, List.getElem_map]
        rw [getD_eqQ r.places (i - 1) (by omega)] at this
        rcases this with h | h
        · omega
        · exact h
    · obtain ⟨i, hi, rfl⟩ := List.getElem_of_mem hp
      exact (h3' i hi).1
    · refine nodup_take _ fun i hi => ?_
      rw [List.length_map] at hi
      have := (h3' i hi).2.2
      rwa [List.getElem_map, ← List.map_take]
    · have := beq_iff_eq.1 h4
      rw [Rm.own, List.take_length] at this
      exact this
  · intro h
    simp only [Rm.okB, Bool.and_eq_true]
    refine ⟨⟨⟨?_, ?_⟩, ?_⟩, ?_⟩
    · simp only [Rm.headB, Bool.and_eq_true, decide_eq_true_eq]
      exact ⟨⟨⟨⟨h.p1, h.p2⟩, h.s1⟩, h.s2⟩, h.s3⟩
    · rw [List.all_eq_true]
      intro i hi
      rw [List.mem_range] at hi
      obtain ⟨a, b⟩ := h.brng _ (List.getElem_mem hi)
      simp only [Rm.chkB, getD_eqQ r.bad i hi, Bool.and_eq_true, Bool.or_eq_true, decide_eq_true_eq]
      refine ⟨⟨a, b⟩, ?_⟩
      rcases Nat.eq_zero_or_pos i with h0 | h0
      · exact .inl h0
      · rw [getD_eqQ r.bad (i - 1) (by omega)]
        exact .inr (List.pairwise_iff_getElem.mp h.basc (i - 1) i (by omega) hi (by omega))
    · rw [List.all_eq_true]
      intro i hi
      rw [List.mem_range] at hi
      obtain ⟨a, b, c, d, e, f⟩ := h.prng _ (List.getElem_mem hi)
      simp only [Rm.chkP, getD_eqQ r.places i hi, Bool.and_eq_true, Bool.or_eq_true, Bool.not_eq_true', decide_eq_true_eq, decide_eq_false_iff_not]
      refine ⟨⟨⟨⟨⟨⟨⟨a, b⟩, ?_⟩, c⟩, d⟩, e⟩, f⟩, ?_⟩
      · rcases Nat.eq_zero_or_pos i with h0 | h0
        · exact .inl h0
        · rw [getD_eqQ r.places (i - 1) (by omega)]
          have := List.pairwise_iff_getElem.mp h.pasc (i - 1) i (by rw [List.length_map]; omega) (by rw [List.length_map]; exact hi) (by omega)
          rw [List.getElem_map, List.getElem_map] at this
          exact .inr this
      · intro hm
        rw [List.map_take] at hm
        obtain ⟨j, hj, e⟩ := List.mem_take_iff_getElem.1 hm
        have := List.pairwise_iff_getElem.mp h.adnd j i (by omega) (by rw [List.length_map]; exact hi) (by omega)
        exact this (by rw [e, List.getElem_map])
    · rw [beq_iff_eq, Rm.own, List.take_length]
      exact h.own
theorem pl_fore (l : List Pl) (h : (l.map (·.pg)).Pairwise (· < ·)) (y : Int) : Fore l (fun p => decide (p.pg - y < 0)) := fun i j hi hj hij hx => by
  have := List.pairwise_iff_getElem.mp h i j (by rwa [List.length_map]) (by rwa [List.length_map]) hij
  rw [List.getElem_map, List.getElem_map] at this
  simp only [decide_eq_true_eq] at hx ⊢
  omega
def plo (l : List Pl) (y : Int) : Nat := lo l fun p => decide (p.pg - y < 0)
def pfound (l : List Pl) (y : Int) : Bool := (l[plo l y]?.map fun p => p.pg - y == 0).getD false
theorem pfound_find (l : List Pl) (h : (l.map (·.pg)).Pairwise (· < ·)) (y : Int) : (l.find? fun p => p.pg == y) = if pfound l y = true then l[plo l y]? else none := by
  by_cases hf : pfound l y = true
  · rw [if_pos hf]
    unfold pfound at hf
    cases hx : l[plo l y]? with
    | none => rw [hx] at hf; simp at hf
    | some p =>
      rw [hx] at hf
      obtain ⟨hlt, he⟩ := List.getElem?_eq_some_iff.1 hx
      have hp : p.pg = y := by simp at hf; omega
      rw [List.find?_eq_some_iff_getElem]
      refine ⟨by simp [hp], plo l y, hlt, he, fun j hj => ?_⟩
      have := lo_before l (fun p => decide (p.pg - y < 0)) j hj (by omega)
      simp only [decide_eq_true_eq] at this
      simp only [Bool.not_eq_eq_eq_not, Bool.not_true, beq_eq_false_iff_ne]
      omega
  · rw [if_neg hf, List.find?_eq_none]
    intro p hp
    obtain ⟨k, hk, rfl⟩ := List.getElem_of_mem hp
    simp only [beq_iff_eq]
    intro e
    apply hf
    have hlo : plo l y = k := by
      refine lo_eq l _ k (by omega) (fun j hj hjk => ?_) (fun hk => ?_)
      · have := List.pairwise_iff_getElem.mp h j k (by rwa [List.length_map]) (by rwa [List.length_map]) hjk
        rw [List.getElem_map, List.getElem_map] at this
        rw [decide_eq_true_eq]; omega
      · rw [decide_eq_false_iff_not]; omega
    rw [pfound, hlo, List.getElem?_eq_getElem hk]
    simp; omega
def Rm.whereS (r : Rm) (y : Int) : Int := match r.places.find? fun p => p.pg == y with | some p => p.ad | none => y
def Rm.ownerS (r : Rm) (a : Int) : Option Int := if a < 0 ∨ a ∈ r.bad then none else if a < r.pages then some a else (r.places.find? fun p => p.ad == a).map (·.pg)
def Rm.freeN (r : Rm) (n : Nat) : List Int := ((List.range n).map fun k : Nat => r.pages + (k : Int)).filter fun x => !decide (x ∈ r.places.map (·.ad)) && !decide (x ∈ r.bad)
def Rm.freeS (r : Rm) : List Int := r.freeN r.spares.toNat
end Go.Proofs.Ytnilcppifcekmaa
namespace Go.Proofs.Ytnilcppifcekmaa
open Go.V Go
theorem place1_v (p : Pl) (y : Int) (h : -1000 ≤ p.pg - y ∧ p.pg - y ≤ 1000) : VCalls Try.prog 61 [.agg [.int .i64 p.pg, .int .i64 p.ad], .int .i64 y] [] (Ret (.int .i64 (p.pg - y))) := by
  refine dd Try.func61 ?_
  simp (config := { maxSteps := 2000000 }) (implicitDefEqProofs := false) (disch := first | omega | assumption | (simp only []; done) | fail) only [vop_move, vcallee_move, vop_assign, vcallee_assign, vop_box, vcallee_box, vop_load, vcallee_load, vop_binOp, vcallee_binOp, vop_fieldAddr, vcallee_fieldAddr, bin2_tmp, strip_pv, strip_ptr, strip_agg, optV_none, ev_tmp, ev_const, ofConst_int, put_some, at_mk, fits_some, ↓look_cons, ↓vlook_t, ↓vlook_f, guard_none, ↓vrun_nil, ↓code_region, ↓code_seq, ↓code_ret, ↓onNormal_normal, frz_pv, frzHeap_zero, res_one, vres_tmp, load_ptr, vld_one, blk_zero, box_eq, allOne_nil, allOne_cons, one_pv, faddr_ptr, vfap_some, bin_int, int_sub, enum_nil, enum_cons, evG_eq, ↓vrun_cons, ↓run1_some, ↓runG_true, ↓run2_none, ↓run3_some, ↓vpost_ret, vfin_some, vfin2_some, at_hp, dcells, List.toList_toArray, List.getElem?_cons_zero, List.length_nil, List.nil_append, Option.map_some, ↓reduceIte, reduceCtorEq, Nat.reduceAdd, Nat.reduceLT, Nat.reduceBEq, Int.reduceLT, Int.reduceAdd, Int.reduceBEq, Nat.zero_add, Nat.add_zero, and_self, Bool.and_self, beq_self_eq_true, Try.vt3, Try.vfield61x0, wrap_i64_in, dec_t, Ret, DV.nums, Try.f61]
theorem place_v (r : Rm) (h : r.Ok) (hs : r.sm) (y : Int) (hy : 0 ≤ y ∧ y < r.pages) : VCalls Try.prog 38 [.agg r.d, .int .i64 y] [] (Ret (.tup [.int .i64 (plo r.places y), .bool (pfound r.places y)])) := by
  refine dd Try.func38 ?_
  have h2 := h.p2
  have hb := bsearchFP_v r.places (by have := hs.1; omega) y 61 (fun p => p.pg - y) (fun p hp => place1_v p y (by have := h.prng p hp; omega)) (pl_fore r.places h.pasc y)
  simp (config := { maxSteps := 2000000 }) (implicitDefEqProofs := false) (disch := first | omega | assumption | (simp only []; done) | fail) only [vop_move, vcallee_move, vop_assign, vcallee_assign, vop_box, vcallee_box, vop_load, vcallee_load, vop_fieldAddr, vcallee_fieldAddr, vcallee_value, vcal_fn, strip_pv, strip_ptr, strip_agg, strip_fn, optV_none, ev_tmp, ev_const, ev_func, ofConst_int, ofConst_bool, put_some, at_mk, fits_some, ↓look_cons, ↓vlook_t, ↓vlook_f, guard_none, ↓vrun_nil, ↓code_region, ↓code_seq, ↓onNormal_normal, load_ptr, vld_one, blk_zero, box_eq, allOne_nil, allOne_cons, one_pv, faddr_ptr, vfap_some, enum_nil, enum_cons, evG_eq, ↓vrun_cons, ↓run1_some, ↓runG_true, ↓run2_none, ↓run2_some, ↓run3_some, at_hp, List.map_nil, dcells, List.toList_toArray, List.getElem?_cons_zero, List.getElem?_cons_succ, List.length_nil, List.map_cons, List.map_nil, List.nil_append, List.append_nil, Option.map_some, ↓reduceIte, reduceCtorEq, Nat.reduceAdd, Nat.reduceLT, Nat.reduceBEq, Int.reduceLT, Int.reduceAdd, Int.reduceBEq, Nat.zero_add, true_and, and_self, Bool.true_and, Bool.and_self, beq_self_eq_true, Try.vt31, Try.vfield34x2, dec_t, Try.f38, Rm.d]
  refine vc_pure hb rfl ?_
  simp (config := { maxSteps := 2000000 }) (implicitDefEqProofs := false) (disch := first | omega | assumption | (simp only []; done) | fail) only [vop_assign, vcallee_assign, vop_extract, vcallee_extract, strip_pv, strip_tup, optV_none, ev_tmp, put_some, at_mk, fits_some, ↓look_cons, ↓vlook_t, ↓vlook_f, guard_none, ↓vrun_nil, ↓code_ret, ↓onNormal_normal, frz_tup, frzT_pv, allSome_nil, allSome_cons, frzHeap_zero, res_two, vres_tmp, ext_tup, evG_eq, ↓vrun_cons, ↓run1_some, ↓runG_true, ↓run2_none, ↓run3_some, ↓runK_eq, ↓vpost_ret, vfin_some, vfin2_some, at_hp, List.map_nil, List.getElem?_cons_zero, List.getElem?_cons_succ, List.map_cons, List.map_nil, Option.map_some, Nat.reduceLT, Nat.reduceBEq, Int.reduceLT, Int.reduceBEq, true_and, and_self, Bool.true_and, Bool.and_self, beq_self_eq_true, DV.wk.go, dec_t, Ret, DV.nums, DV.nums.go]
  rfl
theorem where_v (r : Rm) (hs : r.sm) (y : Int) : VCalls Try.prog 19 [.agg r.d, .int .i64 y] [] (Ret (if r.okB = true then if y < 0 ∨ r.pages ≤ y then .tup [.int .i64 0, .int .i64 1] else .tup [.int .i64 (r.whereS y), .int .i64 0] else .tup [.int .i64 0, .int .i64 48])) := by
  refine dd Try.func19 ?_
  have hv := qvalid_v r hs
  simp (config := { maxSteps := 2000000 }) (implicitDefEqProofs := false) (disch := first | omega | assumption | (simp only []; done) | fail) only [vop_assign, vcallee_assign, vop_box, vcallee_box, vop_load, vcallee_load, vcallee_value, vcal_fn, strip_pv, strip_ptr, strip_agg, strip_fn, optV_none, ev_tmp, ev_const, ev_func, ofConst_int, put_some, at_mk, fits_some, ↓look_cons, ↓vlook_t, ↓vlook_f, guard_none, ↓vrun_nil, ↓code_region, ↓code_seq, ↓code_block, ↓onNormal_normal, load_ptr, vld_agg, blk_zero, box_eq, allOne_nil, allOne_cons, one_pv, enum_nil, enum_cons, evG_eq, ↓vrun_cons, ↓run1_some, ↓runG_true, ↓run2_none, ↓run2_some, ↓run3_some, at_hp, List.map_nil, dcells, List.toList_toArray, List.length_cons, List.length_nil, List.map_cons, List.map_nil, List.nil_append, List.append_nil, List.take_succ_cons, List.take_nil, List.drop_zero, Option.map_some, ↓reduceIte, Nat.reduceAdd, Nat.reduceLT, Nat.reduceBEq, Int.reduceLT, Int.reduceAdd, Int.reduceBEq, Nat.zero_add, true_and, and_self, Bool.true_and, Bool.and_self, beq_self_eq_true, Nat.le_refl, Try.vt34, dec_t, Try.f19, Rm.d]
  refine vc_pure hv rfl ?_
  by_cases ho : r.okB = true
  · have hok := (ok_iff r).1 ho
    rw [if_pos ho]
    by_cases h1 : y < 0
    · rw [if_pos (.inl h1)]
      simp (config := { maxSteps := 2000000 }) (implicitDefEqProofs := false) (disch := first | omega | assumption | (simp only []; done) | fail) only [vop_move, vcallee_move, vop_assign, vcallee_assign, vop_pick, vcallee_pick, vop_binOp, vcallee_binOp, vop_unOp, vcallee_unOp, bin2_int, vpick_bool, strip_pv, strip_tup, optV_none, ev_tmp, ev_const, ofConst_int, ofConst_bool, put_some, at_mk, fits_some, ↓look_cons, ↓vlook_t, ↓vlook_f, guard_none, guard_some, vgof_bool, ↓vrun_nil, ↓code_region, ↓code_seq, ↓code_ret, ↓onNormal_normal, ↓onNormal_ret, ↓onBlock_ret, frz_tup, frzT_pv, allSome_nil, allSome_cons, frzHeap_zero, res_two, vres_tmp, bin_int, int_lss, un_not, evG_eq, ↓vrun_cons, ↓run1_some, ↓runG_true, ↓runG_false, ↓run2_none, ↓run3_some, ↓runK_eq, ↓code_cond, ↓vtest_bool, ↓vbr_true, ↓vbr_false, ↓vpost_ret, vfin_some, vfin2_some, at_hp, pickV_t, List.map_nil, List.getElem?_cons_zero, List.getElem?_cons_succ, List.map_cons, List.map_nil, Option.map_some, Option.bind_some, Nat.reduceLT, Nat.reduceBEq, Int.reduceLT, Int.reduceBEq, and_self, Bool.not_true, Bool.and_self, b_beq_f, beq_self_eq_true, DV.wk.go, dec_t, Ret, DV.nums, DV.nums.go, ho, h1]
    · by_cases h2 : r.pages ≤ y
      · rw [if_pos (.inr h2)]
        simp (config := { maxSteps := 2000000 }) (implicitDefEqProofs := false) (disch := first | omega | assumption | (simp only []; done) | fail) only [vop_move, vcallee_move, vop_assign, vcallee_assign, vop_pick, vcallee_pick, vop_load, vcallee_load, vop_binOp, vcallee_binOp, vop_unOp, vcallee_unOp, vop_fieldAddr, vcallee_fieldAddr, bin2_tmp, bin2_int, vpick_bool, strip_pv, strip_ptr, strip_opt, vstr_true, optV_none, optV_some, pickV_bool, ev_tmp, ev_const, ofConst_int, ofConst_bool, put_some, at_mk, fits_some, ↓look_cons, ↓vlook_t, ↓vlook_f, guard_none, guard_some, vgof_bool, ↓vrun_nil, ↓code_region, ↓code_seq, ↓code_ret, ↓onNormal_normal, ↓onNormal_ret, ↓onBlock_ret, frz_tup, frzT_pv, allSome_nil, allSome_cons, frzHeap_zero, res_two, vres_tmp, load_ptr, vld_one, blk_zero, faddr_ptr, vfap_some, bin_int, int_lss, int_geq, un_not, evG_eq, ↓vrun_cons, ↓run1_some, ↓runG_true, ↓run2_none, ↓run3_some, ↓runK_eq, ↓code_cond, ↓vtest_bool, ↓vbr_true, ↓vbr_false, ↓vpost_ret, vfin_some, vfin2_some, at_hp, List.map_nil, List.getElem?_cons_zero, List.getElem?_cons_succ, List.map_cons, List.map_nil, Option.map_some, Option.bind_some, ↓reduceIte, reduceCtorEq, Nat.reduceLT, Nat.reduceBEq, Int.reduceLT, Int.reduceBEq, Nat.add_zero, decide_false, and_self, or_true, Bool.not_true, Bool.not_false, Bool.or_true, Bool.and_self, Bool.cond_self, beq_self_eq_true, DV.wk.go, Try.vt3, Try.vfield34x0, dec_t, Ret, DV.nums, DV.nums.go, ho, h1, h2]
      · rw [if_neg (by omega)]
        simp (config := { maxSteps := 2000000 }) (implicitDefEqProofs := false) (disch := first | omega | assumption | (simp only []; done) | fail) only [vop_move, vcallee_move, vop_assign, vcallee_assign, vop_pick, vcallee_pick, vop_load, vcallee_load, vop_binOp, vcallee_binOp, vop_unOp, vcallee_unOp, vop_fieldAddr, vcallee_fieldAddr, vcallee_value, vcal_fn, bin2_tmp, bin2_int, vpick_bool, strip_pv, strip_ptr, strip_agg, strip_fn, strip_opt, vstr_true, optV_none, optV_some, pickV_bool, ev_tmp, ev_const, ev_func, ofConst_int, ofConst_bool, put_some, at_mk, fits_some, ↓look_cons, ↓vlook_t, ↓vlook_f, guard_none, guard_some, vgof_bool, ↓vrun_nil, ↓code_skip, ↓code_region, ↓code_seq, ↓onNormal_normal, ↓onBlock_normal, load_ptr, vld_one, vld_agg, blk_zero, faddr_ptr, vfap_some, bin_int, int_lss, int_geq, un_not, evG_eq, ↓vrun_cons, ↓run1_some, ↓runG_true, ↓run2_none, ↓run2_some, ↓run3_some, ↓runK_eq, ↓code_cond, ↓vtest_bool, ↓vbr_false, at_hp, List.map_nil, List.getElem?_cons_zero, List.getElem?_cons_succ, List.length_cons, List.length_nil, List.map_cons, List.map_nil, List.nil_append, List.append_nil, List.take_succ_cons, List.take_nil, List.drop_zero, Option.map_some, Option.bind_some, ↓reduceIte, reduceCtorEq, Nat.reduceAdd, Nat.reduceLT, Nat.reduceBEq, Int.reduceLT, Int.reduceAdd, Int.reduceBEq, Nat.zero_add, Nat.add_zero, decide_false, true_and, or_true, Bool.not_true, Bool.not_false, Bool.or_true, Bool.true_and, cond_false, beq_self_eq_true, Nat.le_refl, Try.vt3, Try.vt34, Try.vfield34x0, dec_t, ho, h1, h2]
        refine vc_pure (place_v r hok hs y ⟨by omega, by omega⟩) rfl ?_
        simp (config := { maxSteps := 2000000 }) (implicitDefEqProofs := false) (disch := first | omega | assumption | (simp only []; done) | fail) only [vop_move, vcallee_move, vop_assign, vcallee_assign, vop_extract, vcallee_extract, strip_pv, strip_tup, optV_none, ev_tmp, put_some, at_mk, fits_some, ↓look_cons, ↓vlook_t, ↓vlook_f, guard_none, ↓vrun_nil, ↓code_region, ↓code_seq, ↓onNormal_normal, ext_tup, evG_eq, ↓vrun_cons, ↓run1_some, ↓runG_true, ↓run2_none, ↓run3_some, ↓runK_eq, ↓code_cond, ↓vtest_bool, at_hp, List.getElem?_cons_zero, List.getElem?_cons_succ, Option.map_some, Nat.reduceLT, Nat.reduceBEq, Int.reduceLT, Int.reduceBEq, true_and, Bool.true_and, beq_self_eq_true, dec_t]
        have hf := pfound_find r.places hok.pasc y
        by_cases hp : pfound r.places y = true
        · rw [if_pos hp] at hf
          cases hx : r.places[plo r.places y]? with
          | none => unfold pfound at hp; rw [hx] at hp; simp at hp
          | some p =>
            obtain ⟨hlt, he⟩ := List.getElem?_eq_some_iff.1 hx
            have hg : (fz encP r.places)[plo r.places y]? = some [.lit (.int .i64 p.pg), .lit (.int .i64 p.ad)] := by rw [← he]; exact fz_at encP r.places _ hlt
            rw [hx] at hf
            simp (config := { maxSteps := 2000000 }) (implicitDefEqProofs := false) (disch := first | omega | assumption | (simp only [List.length_cons, List.length_nil, Nat.zero_add, Nat.reduceAdd]; done) | fail) only [vop_move, vcallee_move, vop_assign, vcallee_assign, vop_load, vcallee_load, vop_fieldAddr, vcallee_fieldAddr, vop_indexAddr, vcallee_indexAddr, strip_pv, strip_ptr, strip_ip, optV_none, ev_tmp, ev_const, ofConst_int, put_some, at_mk, fits_some, ↓look_cons, ↓vlook_t, ↓vlook_f, guard_none, ↓vrun_nil, ↓code_region, ↓code_seq, ↓code_ret, ↓onNormal_normal, ↓onNormal_ret, frz_tup, frzT_pv, allSome_nil, allSome_cons, frzHeap_zero, res_two, vres_tmp, load_ptr, load_ip, vld_one, vldp_one, blk_zero, faddr_ptr, vfap_some, faddr_ip, vfai_some, iaddr_sl, vias_some, evG_eq, ↓vrun_cons, ↓run1_some, ↓runG_true, ↓run2_none, ↓run3_some, ↓vbr_true, ↓vpost_ret, vfin_some, vfin2_some, at_hp, List.map_nil, List.getElem?_cons_zero, List.getElem?_cons_succ, List.map_cons, List.map_nil, List.drop_succ_cons, List.drop_zero, Option.map_some, ↓reduceIte, reduceCtorEq, Nat.reduceLT, Nat.reduceBEq, Int.reduceLT, Int.reduceBEq, Int.toNat_natCast, Nat.zero_add, true_and, and_self, Bool.true_and, Bool.and_self, beq_self_eq_true, DV.wk.go, Try.vt3, Try.vt31, Try.velem31, Try.vfield34x2, Try.vfield61x1, dec_t, Ret, DV.nums, DV.nums.go, hp, hg]
            rw [Rm.whereS, hf]
        · rw [if_neg hp] at hf
          have hp' : pfound r.places y = false := by simpa using hp
          simp (config := { maxSteps := 2000000 }) (implicitDefEqProofs := false) (disch := first | omega | assumption | (simp only []; done) | fail) only [vop_move, vcallee_move, vop_assign, vcallee_assign, strip_pv, optV_none, ev_tmp, ev_const, ofConst_int, put_some, at_mk, fits_some, ↓look_cons, ↓vlook_t, ↓vlook_f, guard_none, ↓vrun_nil, ↓code_skip, ↓code_region, ↓code_seq, ↓code_ret, ↓onNormal_normal, frz_tup, frzT_pv, allSome_nil, allSome_cons, frzHeap_zero, res_two, vres_tmp, evG_eq, ↓vrun_cons, ↓run1_some, ↓runG_true, ↓run2_none, ↓run3_some, ↓vbr_false, ↓vpost_ret, vfin_some, vfin2_some, at_hp, List.map_nil, List.map_cons, List.map_nil, Option.map_some, Nat.reduceLT, Nat.reduceBEq, Int.reduceLT, Int.reduceBEq, true_and, and_self, Bool.true_and, Bool.and_self, beq_self_eq_true, DV.wk.go, dec_t, Ret, DV.nums, DV.nums.go, hp']
          rw [Rm.whereS, hf]
  · have ho' : r.okB = false := by simpa using ho
    rw [if_neg ho]
    simp (config := { maxSteps := 2000000 }) (implicitDefEqProofs := false) (disch := first | omega | assumption | (simp only []; done) | fail) only [vop_assign, vcallee_assign, vop_unOp, vcallee_unOp, strip_pv, optV_none, ev_tmp, ev_const, ofConst_int, put_some, at_mk, fits_some, ↓look_cons, ↓vlook_t, ↓vlook_f, guard_none, ↓vrun_nil, ↓code_region, ↓code_seq, ↓code_ret, ↓onNormal_normal, ↓onNormal_ret, ↓onBlock_ret, frz_tup, frzT_pv, allSome_nil, allSome_cons, frzHeap_zero, res_two, vres_tmp, un_not, evG_eq, ↓vrun_cons, ↓run1_some, ↓runG_true, ↓run2_none, ↓run3_some, ↓runK_eq, ↓code_cond, ↓vtest_bool, ↓vbr_true, ↓vpost_ret, vfin_some, vfin2_some, at_hp, List.map_nil, List.map_cons, List.map_nil, Option.map_some, Nat.reduceLT, Nat.reduceBEq, Int.reduceLT, Int.reduceBEq, and_self, Bool.not_false, Bool.and_self, beq_self_eq_true, DV.wk.go, dec_t, Ret, DV.nums, DV.nums.go, ho']
theorem owner1_v (p : Pl) (a : Int) : VCalls Try.prog 55 [.agg [.int .i64 p.pg, .int .i64 p.ad], .ip [.lit (.int .i64 a)]] [] (Ret (.bool (p.ad == a))) := by
  refine dd Try.func55 ?_
  simp (config := { maxSteps := 2000000 }) (implicitDefEqProofs := false) (disch := first | omega | assumption | (simp only []; done) | fail) only [vop_assign, vcallee_assign, vop_box, vcallee_box, vop_load, vcallee_load, vop_binOp, vcallee_binOp, vop_fieldAddr, vcallee_fieldAddr, bin2_tmp, strip_pv, strip_ptr, strip_ip, strip_agg, optV_none, ev_tmp, ev_const, ofConst_bool, put_some, at_mk, fits_some, ↓look_cons, ↓vlook_t, ↓vlook_f, guard_none, ↓vrun_nil, ↓code_region, ↓code_seq, ↓code_ret, ↓onNormal_normal, frz_pv, frzHeap_zero, res_one, vres_tmp, load_ptr, load_ip, vld_one, vldp_one, blk_zero, box_eq, allOne_nil, allOne_cons, one_pv, faddr_ptr, vfap_some, bin_int, int_eql, enum_nil, enum_cons, evG_eq, ↓vrun_cons, ↓run1_some, ↓runG_true, ↓run2_none, ↓run3_some, ↓vpost_ret, vfin_some, vfin2_some, at_hp, dcells, List.toList_toArray, List.getElem?_cons_zero, List.getElem?_cons_succ, List.length_nil, List.nil_append, Option.map_some, ↓reduceIte, reduceCtorEq, Nat.reduceAdd, Nat.reduceLT, Nat.reduceBEq, Int.reduceLT, Int.reduceAdd, Int.reduceBEq, Nat.zero_add, and_self, Bool.and_self, beq_self_eq_true, Try.vt3, Try.vfield61x1, dec_t, Ret, DV.nums, Try.f55]
theorem idxP_find {α : Type} (l : List α) (p : α → Bool) : (idxP l p = -1 ∧ l.find? p = none) ∨ ∃ i, ∃ h : i < l.length, idxP l p = i ∧ l.find? p = some l[i] := by
  by_cases ha : l.any p = true
  · obtain ⟨x, hm, hp⟩ := List.any_eq_true.1 ha
    have hlt := List.findIdx_lt_length_of_exists ⟨x, hm, hp⟩
    refine .inr ⟨l.findIdx p, hlt, by rw [idxP, if_pos ha], ?_⟩
    rw [List.find?_eq_some_iff_getElem]
    refine ⟨List.findIdx_getElem (w := hlt), _, hlt, rfl, fun j hj => ?_⟩
    have := List.not_of_lt_findIdx hj
    simpa using this
  · refine .inl ⟨by rw [idxP, if_neg ha], ?_⟩
    rw [List.find?_eq_none]
    intro x hx hp
    exact ha (List.any_eq_true.2 ⟨x, hx, hp⟩)
def ownD : Option Int → DV
  | none => .tup [.int .i64 0, .bool false]
  | some n => .tup [.int .i64 n, .bool true]
theorem owner_v (r : Rm) (hs : r.sm) (a : Int) : VCalls Try.prog 33 [.agg r.d, .int .i64 a] [] (Ret (ownD (if r.okB = true then r.ownerS a else none))) := by
  refine dd Try.func33 ?_
  have hv := qvalid_v r hs
  by_cases ho : r.okB = true
  · have hok := (ok_iff r).1 ho
    have hb := bad_v r hs.2 hok.basc a
    rw [if_pos ho]
    rw [ho] at hv
    unfold Rm.ownerS
    by_cases h1 : a < 0
    · rw [if_pos (.inl h1)]
      simp (config := { maxSteps := 2000000 }) (implicitDefEqProofs := false) (disch := first | omega | assumption | (simp only []; done) | fail) only [vop_assign, vcallee_assign, vop_box, vcallee_box, vop_load, vcallee_load, vcallee_value, vcal_fn, strip_pv, strip_ptr, strip_agg, strip_fn, optV_none, ev_tmp, ev_const, ev_func, ofConst_int, ofConst_bool, put_some, at_mk, fits_some, ↓look_cons, ↓vlook_t, ↓vlook_f, guard_none, ↓vrun_nil, ↓code_region, ↓code_seq, ↓onNormal_normal, load_ptr, vld_agg, blk_zero, box_eq, allOne_nil, allOne_cons, one_pv, enum_nil, enum_cons, evG_eq, ↓vrun_cons, ↓run1_some, ↓runG_true, ↓run2_none, ↓run2_some, ↓run3_some, at_hp, List.map_nil, dcells, List.toList_toArray, List.length_cons, List.length_nil, List.map_cons, List.map_nil, List.cons_append, List.nil_append, List.append_nil, List.take_succ_cons, List.take_nil, List.drop_zero, Option.map_some, ↓reduceIte, Nat.reduceAdd, Nat.reduceLT, Nat.reduceBEq, Int.reduceLT, Int.reduceAdd, Int.reduceBEq, Nat.zero_add, true_and, and_self, Bool.true_and, Bool.and_self, beq_self_eq_true, Nat.le_refl, Try.vt34, dec_t, Try.f33, Rm.d]
      refine vc_pure hv rfl ?_
      simp (config := { maxSteps := 2000000 }) (implicitDefEqProofs := false) (disch := first | omega | assumption | (simp only []; done) | fail) only [vop_move, vcallee_move, vop_assign, vcallee_assign, vop_pick, vcallee_pick, vop_load, vcallee_load, vop_binOp, vcallee_binOp, vop_unOp, vcallee_unOp, bin2_int, vpick_bool, strip_pv, strip_ptr, strip_tup, strip_opt, vstr_true, optV_none, optV_some, pickV_bool, ev_tmp, ev_const, ofConst_int, ofConst_bool, put_some, at_mk, fits_some, ↓look_cons, ↓vlook_t, ↓vlook_f, guard_none, guard_some, vgof_bool, ↓vrun_nil, ↓code_region, ↓code_seq, ↓code_ret, ↓onNormal_normal, ↓onNormal_ret, frz_tup, frzT_pv, allSome_nil, allSome_cons, frzHeap_zero, res_two, vres_tmp, load_ptr, vld_one, blk_zero, blk_succ, bin_int, int_lss, un_not, evG_eq, ↓vrun_cons, ↓run1_some, ↓runG_true, ↓runG_false, ↓run2_none, ↓run3_some, ↓runK_eq, ↓code_cond, ↓vtest_bool, ↓vbr_true, ↓vpost_ret, vfin_some, vfin2_some, at_hp, pickV_t, List.map_nil, List.getElem?_cons_zero, List.getElem?_cons_succ, List.map_cons, List.map_nil, Option.map_some, Option.bind_some, Nat.reduceLT, Nat.reduceBEq, Int.reduceLT, Int.reduceBEq, true_and, and_self, or_true, Bool.not_true, Bool.not_false, Bool.or_true, Bool.true_and, Bool.and_self, b_beq_f, Bool.cond_self, beq_self_eq_true, DV.wk.go, Try.vt3, dec_t, Ret, DV.nums, DV.nums.go, h1]
      simp (config := { maxSteps := 2000000 }) (implicitDefEqProofs := false) (disch := first | omega | assumption) only [ownD]
    by_cases h2 : a ∈ r.bad
    · rw [if_pos (.inr h2)]
      simp (config := { maxSteps := 2000000 }) (implicitDefEqProofs := false) (disch := first | omega | assumption | (simp only []; done) | fail) only [vop_assign, vcallee_assign, vop_box, vcallee_box, vop_load, vcallee_load, vcallee_value, vcal_fn, strip_pv, strip_ptr, strip_agg, strip_fn, optV_none, ev_tmp, ev_const, ev_func, ofConst_int, ofConst_bool, put_some, at_mk, fits_some, ↓look_cons, ↓vlook_t, ↓vlook_f, guard_none, ↓vrun_nil, ↓code_region, ↓code_seq, ↓onNormal_normal, load_ptr, vld_agg, blk_zero, box_eq, allOne_nil, allOne_cons, one_pv, enum_nil, enum_cons, evG_eq, ↓vrun_cons, ↓run1_some, ↓runG_true, ↓run2_none, ↓run2_some, ↓run3_some, at_hp, List.map_nil, dcells, List.toList_toArray, List.length_cons, List.length_nil, List.map_cons, List.map_nil, List.cons_append, List.nil_append, List.append_nil, List.take_succ_cons, List.take_nil, List.drop_zero, Option.map_some, ↓reduceIte, Nat.reduceAdd, Nat.reduceLT, Nat.reduceBEq, Int.reduceLT, Int.reduceAdd, Int.reduceBEq, Nat.zero_add, true_and, and_self, Bool.true_and, Bool.and_self, beq_self_eq_true, Nat.le_refl, Try.vt34, dec_t, Try.f33, Rm.d]
      refine vc_pure hv rfl ?_
      simp (config := { maxSteps := 2000000 }) (implicitDefEqProofs := false) (disch := first | omega | assumption | (simp only []; done) | fail) only [vop_move, vcallee_move, vop_pick, vcallee_pick, vop_load, vcallee_load, vop_binOp, vcallee_binOp, vop_unOp, vcallee_unOp, vcallee_value, vcal_fn, bin2_int, vpick_bool, strip_pv, strip_ptr, strip_fn, strip_opt, vstr_true, optV_none, optV_some, pickV_bool, ev_tmp, ev_const, ev_func, ofConst_int, ofConst_bool, put_some, at_mk, fits_some, ↓look_cons, ↓vlook_t, ↓vlook_f, guard_none, guard_some, vgof_bool, load_ptr, vld_one, vld_agg, blk_zero, blk_succ, bin_int, int_lss, un_not, evG_eq, ↓vrun_cons, ↓run1_some, ↓runG_true, ↓run2_none, ↓run2_some, ↓run3_some, ↓runK_eq, at_hp, List.map_nil, List.getElem?_cons_zero, List.getElem?_cons_succ, List.length_cons, List.length_nil, List.map_cons, List.map_nil, List.nil_append, List.append_nil, List.take_succ_cons, List.take_nil, List.drop_zero, Option.map_some, Option.bind_some, ↓reduceIte, Nat.reduceAdd, Nat.reduceLT, Nat.reduceBEq, Int.reduceLT, Int.reduceAdd, Int.reduceBEq, Nat.zero_add, decide_false, true_and, or_true, Bool.not_true, Bool.not_false, Bool.or_true, Bool.true_and, cond_false, beq_self_eq_true, Nat.le_refl, Try.vt3, Try.vt34, dec_t, h1]
      refine vc_pure (hb) rfl ?_
      simp (config := { maxSteps := 2000000 }) (implicitDefEqProofs := false) (disch := first | omega | assumption | (simp only []; done) | fail) only [vop_assign, vcallee_assign, vop_pick, vcallee_pick, vpick_bool, strip_pv, strip_opt, vstr_true, optV_none, optV_some, pickV_bool, ev_tmp, ev_const, ofConst_int, ofConst_bool, put_some, at_mk, fits_some, ↓look_cons, ↓vlook_t, ↓vlook_f, guard_none, ↓vrun_nil, ↓code_region, ↓code_seq, ↓code_ret, ↓onNormal_normal, ↓onNormal_ret, frz_tup, frzT_pv, allSome_nil, allSome_cons, frzHeap_zero, res_two, vres_tmp, evG_eq, ↓vrun_cons, ↓run1_some, ↓runG_true, ↓run2_none, ↓run3_some, ↓runK_eq, ↓code_cond, ↓vtest_bool, ↓vbr_true, ↓vpost_ret, vfin_some, vfin2_some, at_hp, List.map_nil, List.map_cons, List.map_nil, Option.map_some, Nat.reduceLT, Nat.reduceBEq, Int.reduceLT, Int.reduceBEq, and_self, or_true, Bool.not_true, Bool.not_false, Bool.or_true, Bool.and_self, Bool.cond_self, beq_self_eq_true, DV.wk.go, dec_t, Ret, DV.nums, DV.nums.go, h2, ownD]
    rw [if_neg (by simp [h1, h2])]
    by_cases h3 : a < r.pages
    · rw [if_pos h3]
      simp (config := { maxSteps := 2000000 }) (implicitDefEqProofs := false) (disch := first | omega | assumption | (simp only []; done) | fail) only [vop_assign, vcallee_assign, vop_box, vcallee_box, vop_load, vcallee_load, vcallee_value, vcal_fn, strip_pv, strip_ptr, strip_agg, strip_fn, optV_none, ev_tmp, ev_const, ev_func, ofConst_int, ofConst_bool, put_some, at_mk, fits_some, ↓look_cons, ↓vlook_t, ↓vlook_f, guard_none, ↓vrun_nil, ↓code_region, ↓code_seq, ↓onNormal_normal, load_ptr, vld_agg, blk_zero, box_eq, allOne_nil, allOne_cons, one_pv, enum_nil, enum_cons, evG_eq, ↓vrun_cons, ↓run1_some, ↓runG_true, ↓run2_none, ↓run2_some, ↓run3_some, at_hp, List.map_nil, dcells, List.toList_toArray, List.length_cons, List.length_nil, List.map_cons, List.map_nil, List.cons_append, List.nil_append, List.append_nil, List.take_succ_cons, List.take_nil, List.drop_zero, Option.map_some, ↓reduceIte, Nat.reduceAdd, Nat.reduceLT, Nat.reduceBEq, Int.reduceLT, Int.reduceAdd, Int.reduceBEq, Nat.zero_add, true_and, and_self, Bool.true_and, Bool.and_self, beq_self_eq_true, Nat.le_refl, Try.vt34, dec_t, Try.f33, Rm.d]
      refine vc_pure hv rfl ?_
      simp (config := { maxSteps := 2000000 }) (implicitDefEqProofs := false) (disch := first | omega | assumption | (simp only []; done) | fail) only [vop_move, vcallee_move, vop_pick, vcallee_pick, vop_load, vcallee_load, vop_binOp, vcallee_binOp, vop_unOp, vcallee_unOp, vcallee_value, vcal_fn, bin2_int, vpick_bool, strip_pv, strip_ptr, strip_fn, strip_opt, vstr_true, optV_none, optV_some, pickV_bool, ev_tmp, ev_const, ev_func, ofConst_int, ofConst_bool, put_some, at_mk, fits_some, ↓look_cons, ↓vlook_t, ↓vlook_f, guard_none, guard_some, vgof_bool, load_ptr, vld_one, vld_agg, blk_zero, blk_succ, bin_int, int_lss, un_not, evG_eq, ↓vrun_cons, ↓run1_some, ↓runG_true, ↓run2_none, ↓run2_some, ↓run3_some, ↓runK_eq, at_hp, List.map_nil, List.getElem?_cons_zero, List.getElem?_cons_succ, List.length_cons, List.length_nil, List.map_cons, List.map_nil, List.nil_append, List.append_nil, List.take_succ_cons, List.take_nil, List.drop_zero, Option.map_some, Option.bind_some, ↓reduceIte, Nat.reduceAdd, Nat.reduceLT, Nat.reduceBEq, Int.reduceLT, Int.reduceAdd, Int.reduceBEq, Nat.zero_add, decide_false, true_and, or_true, Bool.not_true, Bool.not_false, Bool.or_true, Bool.true_and, cond_false, beq_self_eq_true, Nat.le_refl, Try.vt3, Try.vt34, dec_t, h1]
      refine vc_pure (hb) rfl ?_
      simp (config := { maxSteps := 2000000 }) (implicitDefEqProofs := false) (disch := first | omega | assumption | (simp only []; done) | fail) only [vop_assign, vcallee_assign, vop_pick, vcallee_pick, vop_load, vcallee_load, vop_binOp, vcallee_binOp, vop_fieldAddr, vcallee_fieldAddr, bin2_tmp, vpick_bool, strip_pv, strip_ptr, strip_opt, vstr_true, optV_none, optV_some, pickV_bool, ev_tmp, ev_const, ofConst_bool, put_some, at_mk, fits_some, ↓look_cons, ↓vlook_t, ↓vlook_f, guard_none, ↓vrun_nil, ↓code_skip, ↓code_region, ↓code_seq, ↓code_ret, ↓onNormal_normal, ↓onNormal_ret, frz_tup, frzT_pv, allSome_nil, allSome_cons, frzHeap_zero, res_two, vres_tmp, load_ptr, vld_one, blk_zero, blk_succ, faddr_ptr, vfap_some, bin_int, int_lss, evG_eq, ↓vrun_cons, ↓run1_some, ↓runG_true, ↓run2_none, ↓run3_some, ↓runK_eq, ↓code_cond, ↓vtest_bool, ↓vbr_true, ↓vbr_false, ↓vpost_ret, vfin_some, vfin2_some, at_hp, List.map_nil, List.getElem?_cons_zero, List.map_cons, List.map_nil, Option.map_some, ↓reduceIte, reduceCtorEq, Nat.reduceLT, Nat.reduceBEq, Int.reduceLT, Int.reduceBEq, Nat.add_zero, decide_false, and_self, or_true, Bool.not_true, Bool.not_false, Bool.or_true, Bool.and_self, cond_false, beq_self_eq_true, DV.wk.go, Try.vt3, Try.vfield34x0, dec_t, Ret, DV.nums, DV.nums.go, h2, h3, ownD]
    rw [if_neg h3]
    have hi := indexFP_v r.places (by have := hs.1; omega) 55 [.ip [.lit (.int .i64 a)]] rfl (fun p => p.ad == a) (fun p _ => owner1_v p a)
    simp (config := { maxSteps := 2000000 }) (implicitDefEqProofs := false) (disch := first | omega | assumption | (simp only []; done) | fail) only [vop_assign, vcallee_assign, vop_box, vcallee_box, vop_load, vcallee_load, vcallee_value, vcal_fn, strip_pv, strip_ptr, strip_agg, strip_fn, optV_none, ev_tmp, ev_const, ev_func, ofConst_int, ofConst_bool, put_some, at_mk, fits_some, ↓look_cons, ↓vlook_t, ↓vlook_f, guard_none, ↓vrun_nil, ↓code_region, ↓code_seq, ↓onNormal_normal, load_ptr, vld_agg, blk_zero, box_eq, allOne_nil, allOne_cons, one_pv, enum_nil, enum_cons, evG_eq, ↓vrun_cons, ↓run1_some, ↓runG_true, ↓run2_none, ↓run2_some, ↓run3_some, at_hp, List.map_nil, dcells, List.toList_toArray, List.length_cons, List.length_nil, List.map_cons, List.map_nil, List.cons_append, List.nil_append, List.append_nil, List.take_succ_cons, List.take_nil, List.drop_zero, Option.map_some, ↓reduceIte, Nat.reduceAdd, Nat.reduceLT, Nat.reduceBEq, Int.reduceLT, Int.reduceAdd, Int.reduceBEq, Nat.zero_add, true_and, and_self, Bool.true_and, Bool.and_self, beq_self_eq_true, Nat.le_refl, Try.vt34, dec_t, Try.f33, Rm.d]
    refine vc_pure hv rfl ?_
    simp (config := { maxSteps := 2000000 }) (implicitDefEqProofs := false) (disch := first | omega | assumption | (simp only []; done) | fail) only [vop_move, vcallee_move, vop_pick, vcallee_pick, vop_load, vcallee_load, vop_binOp, vcallee_binOp, vop_unOp, vcallee_unOp, vcallee_value, vcal_fn, bin2_int, vpick_bool, strip_pv, strip_ptr, strip_fn, strip_opt, vstr_true, optV_none, optV_some, pickV_bool, ev_tmp, ev_const, ev_func, ofConst_int, ofConst_bool, put_some, at_mk, fits_some, ↓look_cons, ↓vlook_t, ↓vlook_f, guard_none, guard_some, vgof_bool, load_ptr, vld_one, vld_agg, blk_zero, blk_succ, bin_int, int_lss, un_not, evG_eq, ↓vrun_cons, ↓run1_some, ↓runG_true, ↓run2_none, ↓run2_some, ↓run3_some, ↓runK_eq, at_hp, List.map_nil, List.getElem?_cons_zero, List.getElem?_cons_succ, List.length_cons, List.length_nil, List.map_cons, List.map_nil, List.nil_append, List.append_nil, List.take_succ_cons, List.take_nil, List.drop_zero, Option.map_some, Option.bind_some, ↓reduceIte, Nat.reduceAdd, Nat.reduceLT, Nat.reduceBEq, Int.reduceLT, Int.reduceAdd, Int.reduceBEq, Nat.zero_add, decide_false, true_and, or_true, Bool.not_true, Bool.not_false, Bool.or_true, Bool.true_and, cond_false, beq_self_eq_true, Nat.le_refl, Try.vt3, Try.vt34, dec_t, h1]
    refine vc_pure (hb) rfl ?_
    simp (config := { maxSteps := 2000000 }) (implicitDefEqProofs := false) (disch := first | omega | assumption | (simp only []; done) | fail) only [vop_pick, vcallee_pick, vop_load, vcallee_load, vop_binOp, vcallee_binOp, vop_makeFunc, vcallee_makeFunc, vop_fieldAddr, vcallee_fieldAddr, vcallee_value, vcal_fn, bin2_tmp, vpick_bool, strip_pv, strip_ptr, strip_fn, strip_opt, vstr_true, optV_none, optV_some, pickV_bool, ev_tmp, ev_const, ev_func, ofConst_bool, put_some, at_mk, fits_some, ↓look_cons, ↓vlook_t, ↓vlook_f, guard_none, ↓vrun_nil, ↓code_skip, ↓code_region, ↓code_seq, ↓onNormal_normal, load_ptr, vld_one, blk_zero, blk_succ, faddr_ptr, vfap_some, bin_int, int_lss, evG_eq, ↓vrun_cons, ↓run1_some, ↓runG_true, ↓run2_none, ↓run2_some, ↓run3_some, ↓runK_eq, ↓code_cond, ↓vtest_bool, ↓vbr_false, at_hp, List.map_nil, List.getElem?_cons_zero, List.getElem?_cons_succ, List.map_cons, List.map_nil, List.nil_append, List.append_nil, Option.map_some, ↓reduceIte, reduceCtorEq, Nat.reduceLT, Nat.reduceBEq, Int.reduceLT, Int.reduceBEq, Nat.zero_add, Nat.add_zero, decide_false, true_and, or_true, Bool.not_true, Bool.not_false, Bool.or_true, Bool.true_and, cond_false, beq_self_eq_true, Try.vt3, Try.vt31, Try.vfield34x0, Try.vfield34x2, dec_t, h2, h3]
    refine vc_lendA hi (by simp (config := { maxSteps := 2000000 }) (implicitDefEqProofs := false) (disch := first | omega | assumption) only [allSome_nil, allSome_cons, blk_zero, blk_succ, List.map_nil, List.map_cons, List.map_nil, List.drop_zero, Option.map_some, frzP_pv, frzA_pv, frzA_fn, frzF_some, frzB_ptrE, frzQ_some]) rfl ?_
    rcases idxP_find r.places (fun p => p.ad == a) with ⟨e1, e2⟩ | ⟨i, hlt, e1, e2⟩
    · rw [e1, e2]
      simp (config := { maxSteps := 2000000 }) (implicitDefEqProofs := false) (disch := first | omega | assumption | (simp only []; done) | fail) only [vop_move, vcallee_move, vop_assign, vcallee_assign, vop_binOp, vcallee_binOp, bin2_int, strip_pv, optV_none, ev_tmp, ev_const, ofConst_int, ofConst_bool, put_some, at_mk, fits_some, ↓look_cons, ↓vlook_t, ↓vlook_f, guard_none, ↓vrun_nil, ↓code_region, ↓code_seq, ↓code_ret, ↓onNormal_normal, ↓onNormal_ret, frz_tup, frzT_pv, allSome_nil, allSome_cons, frzHeap_zero, res_two, vres_tmp, bin_int, int_lss, evG_eq, ↓vrun_cons, ↓run1_some, ↓runG_true, ↓run2_none, ↓run3_some, ↓runK_eq, ↓code_cond, ↓vtest_bool, ↓vbr_true, ↓vpost_ret, vfin_some, vfin2_some, at_hp, List.map_nil, List.map_cons, List.map_nil, Option.map_some, Option.map_none, Nat.reduceLT, Nat.reduceBEq, Int.reduceLT, Int.reduceNeg, Int.reduceBEq, and_self, Bool.and_self, beq_self_eq_true, DV.wk.go, dec_t, Ret, DV.nums, DV.nums.go, ownD]
    · have hg : (fz encP r.places)[i]? = some [.lit (.int .i64 r.places[i].pg), .lit (.int .i64 r.places[i].ad)] := fz_at encP r.places i hlt
      rw [e1, e2]
      simp (config := { maxSteps := 2000000 }) (implicitDefEqProofs := false) (disch := first | omega | assumption | (simp only [List.length_cons, List.length_nil, Nat.zero_add, Nat.reduceAdd]; done) | fail) only [vop_move, vcallee_move, vop_assign, vcallee_assign, vop_load, vcallee_load, vop_binOp, vcallee_binOp, vop_fieldAddr, vcallee_fieldAddr, vop_indexAddr, vcallee_indexAddr, bin2_int, strip_pv, strip_ptr, strip_ip, optV_none, ev_tmp, ev_const, ofConst_int, ofConst_bool, put_some, at_mk, fits_some, ↓look_cons, ↓vlook_t, ↓vlook_f, guard_none, ↓vrun_nil, ↓code_skip, ↓code_region, ↓code_seq, ↓code_ret, ↓onNormal_normal, frz_tup, frzT_pv, allSome_nil, allSome_cons, frzHeap_zero, res_two, vres_tmp, load_ptr, load_ip, vld_one, vldp_one, blk_zero, faddr_ptr, vfap_some, faddr_ip, vfai_some, iaddr_sl, vias_some, bin_int, int_lss, evG_eq, ↓vrun_cons, ↓run1_some, ↓runG_true, ↓run2_none, ↓run3_some, ↓runK_eq, ↓code_cond, ↓vtest_bool, ↓vbr_false, ↓vpost_ret, vfin_some, vfin2_some, at_hp, List.map_nil, List.getElem?_cons_zero, List.getElem?_cons_succ, List.map_cons, List.map_nil, List.drop_zero, Option.map_some, ↓reduceIte, reduceCtorEq, Nat.reduceLT, Nat.reduceBEq, Int.reduceLT, Int.reduceBEq, Int.toNat_natCast, Nat.zero_add, true_and, and_self, Bool.true_and, Bool.and_self, beq_self_eq_true, DV.wk.go, Try.vt3, Try.vt31, Try.velem31, Try.vfield34x2, Try.vfield61x0, dec_t, dec_f, Ret, DV.nums, DV.nums.go, hg]
      rfl
  · have ho' : r.okB = false := by simpa using ho
    rw [if_neg ho]
    rw [ho'] at hv
    simp (config := { maxSteps := 2000000 }) (implicitDefEqProofs := false) (disch := first | omega | assumption | (simp only []; done) | fail) only [vop_assign, vcallee_assign, vop_box, vcallee_box, vop_load, vcallee_load, vcallee_value, vcal_fn, strip_pv, strip_ptr, strip_agg, strip_fn, optV_none, ev_tmp, ev_const, ev_func, ofConst_int, ofConst_bool, put_some, at_mk, fits_some, ↓look_cons, ↓vlook_t, ↓vlook_f, guard_none, ↓vrun_nil, ↓code_region, ↓code_seq, ↓onNormal_normal, load_ptr, vld_agg, blk_zero, box_eq, allOne_nil, allOne_cons, one_pv, enum_nil, enum_cons, evG_eq, ↓vrun_cons, ↓run1_some, ↓runG_true, ↓run2_none, ↓run2_some, ↓run3_some, at_hp, List.map_nil, dcells, List.toList_toArray, List.length_cons, List.length_nil, List.map_cons, List.map_nil, List.cons_append, List.nil_append, List.append_nil, List.take_succ_cons, List.take_nil, List.drop_zero, Option.map_some, ↓reduceIte, Nat.reduceAdd, Nat.reduceLT, Nat.reduceBEq, Int.reduceLT, Int.reduceAdd, Int.reduceBEq, Nat.zero_add, true_and, and_self, Bool.true_and, Bool.and_self, beq_self_eq_true, Nat.le_refl, Try.vt34, dec_t, Try.f33, Rm.d]
    refine vc_pure hv rfl ?_
    simp (config := { maxSteps := 2000000 }) (implicitDefEqProofs := false) (disch := first | omega | assumption | (simp only []; done) | fail) only [vop_move, vcallee_move, vop_assign, vcallee_assign, vop_pick, vcallee_pick, vop_unOp, vcallee_unOp, vpick_bool, strip_pv, strip_tup, optV_none, ev_tmp, ev_const, ofConst_int, ofConst_bool, put_some, at_mk, fits_some, ↓look_cons, ↓vlook_t, ↓vlook_f, guard_none, guard_some, vgof_bool, ↓vrun_nil, ↓code_region, ↓code_seq, ↓code_ret, ↓onNormal_normal, ↓onNormal_ret, frz_tup, frzT_pv, allSome_nil, allSome_cons, frzHeap_zero, res_two, vres_tmp, un_not, evG_eq, ↓vrun_cons, ↓run1_some, ↓runG_true, ↓runG_false, ↓run2_none, ↓run3_some, ↓runK_eq, ↓code_cond, ↓vtest_bool, ↓vbr_true, ↓vpost_ret, vfin_some, vfin2_some, at_hp, pickV_t, List.map_nil, List.getElem?_cons_zero, List.getElem?_cons_succ, List.map_cons, List.map_nil, Option.map_some, Option.bind_some, Nat.reduceLT, Nat.reduceBEq, Int.reduceLT, Int.reduceBEq, true_and, and_self, Bool.not_true, Bool.not_false, Bool.true_and, Bool.and_self, b_beq_f, beq_self_eq_true, DV.wk.go, dec_t, Ret, DV.nums, DV.nums.go]
    try simp (config := { maxSteps := 2000000 }) (implicitDefEqProofs := false) (disch := first | omega | assumption) only [ownD]
end Go.Proofs.Ytnilcppifcekmaa
namespace Go.Proofs.Ytnilcppifcekmaa
open Go.V Go
theorem freeN_succ (r : Rm) (k : Nat) : r.freeN (k + 1) = r.freeN k ++ (if r.pages + (k : Int) ∈ r.places.map (·.ad) ∨ r.pages + (k : Int) ∈ r.bad then [] else [r.pages + (k : Int)]) := by
  rw [Rm.freeN, List.range_succ, List.map_append, List.filter_append]
  congr 1
  by_cases h1 : r.pages + (k : Int) ∈ r.places.map (·.ad) <;> by_cases h2 : r.pages + (k : Int) ∈ r.bad <;> simp only [h1, h2, decide_true, decide_false, Bool.not_true, Bool.not_false, Bool.false_and, Bool.and_false, Bool.and_true, or_true, true_or, or_self, reduceIte, List.map_cons, List.map_nil, List.filter_cons, List.filter_nil, Bool.false_eq_true]
theorem freeN_len (r : Rm) (k : Nat) : (r.freeN k).length ≤ k := by
  have := List.length_filter_le (fun x => !decide (x ∈ r.places.map (·.ad)) && !decide (x ∈ r.bad)) ((List.range k).map fun k : Nat => r.pages + (k : Int))
  rw [List.length_map, List.length_range] at this
  exact this
theorem free_v (r : Rm) (h : r.Ok) (hs : r.sm) : VCalls Try.prog 37 [.agg r.d] [] (Ret (.pv (.sl (fz encI r.freeS)))) := by
  refine dd Try.func37 ?_
  obtain ⟨hs1, hs2⟩ := hs
  have hbc := bad_v r hs2 h.basc
  have p1 := h.p1
  have p2 := h.p2
  have q1 := h.s1
  have q2 := h.s2
  have q3 := h.s3
  simp (config := { maxSteps := 2000000 }) (implicitDefEqProofs := false) (disch := first | omega | assumption | (simp only []; done) | fail) only [vop_move, vcallee_move, vop_assign, vcallee_assign, vop_alloc, vcallee_alloc, vop_box, vcallee_box, vop_load, vcallee_load, vop_fieldAddr, vcallee_fieldAddr, vop_builtin, vcallee_builtin, strip_pv, strip_ptr, strip_agg, optV_none, ev_tmp, ev_const, ofConst_int, ofConst_slice, put_some, at_mk, fits_some, ↓look_cons, ↓vlook_t, ↓vlook_f, guard_none, ↓vrun_nil, ↓code_region, ↓code_seq, ↓code_block, ↓code_loop, ↓onNormal_normal, load_ptr, vld_one, blk_zero, box_eq, alloc_eq, val1_some, allOne_nil, allOne_cons, one_pv, faddr_ptr, vfap_some, len_sl, vlk_sl, bi_len, enum_nil, enum_cons, evG_eq, ↓vrun_cons, ↓run1_some, ↓runG_true, ↓run2_none, ↓run3_some, at_hp, List.map_nil, dcells, List.toList_toArray, List.getElem?_cons_zero, List.getElem?_cons_succ, List.length_cons, List.length_nil, List.map_cons, List.map_nil, List.cons_append, List.nil_append, Option.map_some, ↓reduceIte, reduceCtorEq, Nat.reduceLT, Nat.reduceBEq, Int.reduceLT, Int.reduceBEq, Nat.zero_add, true_and, and_self, Bool.true_and, Bool.and_self, beq_self_eq_true, fz_len, Try.vt31, Try.vkind31, Try.vfield34x2, Try.vzero72, dec_t, Try.f37, Rm.d]
  refine vloopW (fun s : {i : Nat // i ≤ r.places.length} => ⟨45, 0, [(11, .int .i64 s.1), (10, .int .i64 r.places.length), (9, .pv (.sl (fz encP r.places))), (3, .ptr 1 0), (1, .ptr 0 0)], [⟨34, true, r.d⟩, ⟨72, true, cells encB (usedL ((r.places.take s.1).map (·.ad)))⟩]⟩) (fun s => r.places.length - s.1) ⟨0, by omega⟩ (.inl (by refine ⟨rfl, rfl, by simp, ?_, ?_, .inr ⟨?_, ?_⟩⟩ <;> (repeat' apply And.intro) <;> first | rfl | trivial | (intro _; first | rfl | apply cells_refs))) ?_
  rintro ⟨i, hi⟩
  dsimp only
  simp (config := { maxSteps := 2000000 }) (implicitDefEqProofs := false) (disch := first | omega | assumption | (simp only []; done) | fail) only [vop_binOp, vcallee_binOp, bin2_tmp, strip_pv, optV_none, ev_tmp, put_some, at_mk, fits_some, ↓look_cons, ↓vlook_t, ↓vlook_f, guard_none, ↓vrun_nil, ↓code_region, ↓code_seq, ↓onNormal_normal, bin_int, int_lss, evG_eq, ↓vrun_cons, ↓run1_some, ↓runG_true, ↓run2_none, ↓run3_some, ↓code_cond, ↓vtest_bool, Option.map_some, Nat.reduceLT, Nat.reduceBEq, Int.reduceLT, Int.reduceBEq, true_and, Bool.true_and, beq_self_eq_true, dec_t, Rm.d]
  refine vbr_split (fun hc => ?_) (fun hc => ?_) <;> simp only [decide_eq_true_eq, decide_eq_false_iff_not, Bool.or_eq_true, Bool.and_eq_true, Bool.or_eq_false_iff, Bool.and_eq_false_imp, Bool.not_eq_true', Bool.not_eq_false', beq_iff_eq, beq_eq_false_iff_ne, bne_iff_ne, bne_eq_false_iff_eq, ne_eq] at hc
  · have hlt : i < r.places.length := by omega
    have hg : (fz encP r.places)[i]? = some [.lit (.int .i64 r.places[i].pg), .lit (.int .i64 r.places[i].ad)] := fz_at encP r.places i hlt
    have htk := take_succ_map r.places i hlt
    rw [getD_eqQ _ _ hlt] at htk
    obtain ⟨_, _, _, c4, c5, _⟩ := h.prng _ (List.getElem_mem hlt)
    generalize r.places[i] = p at *
    have hus := usedL_set ((r.places.take i).map (·.ad)) p.ad.toNat
    rw [show ((p.ad.toNat : Nat) : Int) = p.ad by omega] at hus
    have hadn : p.ad.toNat < 64 := by omega
    simp (config := { maxSteps := 2000000 }) (implicitDefEqProofs := false) (disch := first | omega | assumption | (simp only [List.length_cons, List.length_nil, Nat.zero_add, Nat.reduceAdd]; done) | fail) only [vop_move, vcallee_move, vop_alloc, vcallee_alloc, vop_load, vcallee_load, vop_store, vcallee_store, vop_binOp, vcallee_binOp, vop_fieldAddr, vcallee_fieldAddr, vop_indexAddr, vcallee_indexAddr, bin2_int, strip_pv, strip_ptr, strip_ip, strip_agg, optV_none, ev_tmp, ev_const, ofConst_int, ofConst_bool, put_some, put_none, at_mk, fits_some, fits_none, ↓look_cons, ↓vlook_t, ↓vlook_f, guard_none, ↓vrun_nil, ↓code_skip, ↓code_region, ↓code_seq, ↓code_block, ↓onNormal_normal, ↓onBlock_normal, load_ptr, load_ip, vld_one, vldp_agg, store_ptr, vst_one, vst_agg, blk_zero, blk_succ, set_zero, set_succ, alloc_eq, val1_some, allOne_nil, allOne_cons, one_pv, faddr_ptr, vfap_some, iaddr_sl, vias_some, iaddr_ptr, viap_some, bin_int, int_add, evG_eq, ↓vrun_cons, ↓run1_some, ↓runG_true, ↓run2_none, ↓run3_some, at_hp, List.map_nil, V.splice, List.getElem?_cons_zero, List.getElem?_cons_succ, List.length_cons, List.length_nil, List.map_cons, List.map_nil, List.cons_append, List.nil_append, List.append_nil, List.take_succ_cons, List.take_zero, List.take_nil, List.drop_succ_cons, List.drop_nil, Option.map_some, ↓reduceIte, reduceCtorEq, Nat.reduceAdd, Nat.reduceLT, Nat.reduceBEq, Int.reduceLT, Int.reduceAdd, Int.reduceBEq, Int.toNat_natCast, Nat.zero_add, Nat.mul_one, true_and, and_self, Bool.true_and, Bool.and_self, beq_self_eq_true, Nat.le_refl, cellsB_len, Try.vt3, Try.vt4, Try.velem31, Try.vt61, Try.vfield61x1, Try.vzero61, Try.velem72, wrap_i64_in, dec_t, hg, cellsB_len, usedL_len, hadn, hus]
    refine ⟨⟨i + 1, by omega⟩, by show r.places.length - (i + 1) < r.places.length - i; omega, ?_⟩
    dsimp only
    rw [htk]
    exact (by refine gc_of (keep := [0, 1]) rfl rfl rfl (by decide) ?_ ?_ <;> (repeat' apply And.intro) <;> first | trivial | rfl | exact ⟨_, rfl, rfl, rfl, .inl ⟨rfl, rfl⟩⟩ | exact ⟨_, rfl, rfl, rfl, .inl ⟨cells_nums _ _ _, rfl⟩⟩ | exact ⟨_, rfl, rfl, rfl, .inl ⟨pvs_nums _ _, rfl⟩⟩ | exact ⟨_, rfl, rfl, rfl, .inr ⟨rfl, rfl⟩⟩)
  · have hil : i = r.places.length := by omega
    subst hil
    rw [List.take_length]
    obtain ⟨n, hn⟩ : ∃ n : Nat, r.spares = n := ⟨r.spares.toNat, by omega⟩
    simp (config := { maxSteps := 2000000 }) (implicitDefEqProofs := false) (disch := first | omega | assumption | (simp only []; done) | fail) only [vop_assign, vcallee_assign, vop_load, vcallee_load, vop_fieldAddr, vcallee_fieldAddr, strip_pv, strip_ptr, optV_none, ev_tmp, ev_const, ofConst_slice, put_some, at_mk, fits_some, ↓look_cons, ↓vlook_t, ↓vlook_f, guard_none, ↓vrun_nil, ↓code_region, ↓code_seq, ↓code_block, ↓code_loop, ↓code_exit, ↓onNormal_normal, ↓onNormal_exit, ↓onBlock_exit, load_ptr, vld_one, blk_zero, faddr_ptr, vfap_some, evG_eq, ↓vrun_cons, ↓run1_some, ↓runG_true, ↓run2_none, ↓run3_some, at_hp, List.getElem?_cons_zero, Option.map_some, ↓reduceIte, reduceCtorEq, Nat.reduceLT, Nat.reduceBEq, Int.reduceLT, Int.reduceBEq, Nat.add_zero, true_and, Bool.true_and, beq_self_eq_true, Try.vt3, Try.vfield34x0, dec_t, dec_f]
    refine VLoop.nilOwn 6 3 1 rfl ?_
    refine vloopW (fun s : {k : Nat // k ≤ n} => ⟨45, 0, [(7, .int .i64 (r.pages + (s.1 : Int))), (6, .own 2 1 0 (r.freeN s.1).length), (3, .ptr 1 0), (1, .ptr 0 0)], [⟨34, true, r.d⟩, ⟨72, true, cells encB (usedL (r.places.map (·.ad)))⟩, ⟨3, true, cells encI (r.freeN s.1)⟩]⟩) (fun s => n - s.1) ⟨0, by omega⟩ (.inl ?_) ?_
    · dsimp only
      rw [show r.pages + ((0 : Nat) : Int) = r.pages by omega]
      exact (by refine ⟨rfl, rfl, by simp, ?_, ?_, .inr ⟨?_, ?_⟩⟩ <;> (repeat' apply And.intro) <;> first | rfl | trivial | (intro _; first | rfl | apply cells_refs))
    rintro ⟨k, hk⟩
    dsimp only
    have hfl := freeN_len r k
    simp (config := { maxSteps := 2000000 }) (implicitDefEqProofs := false) (disch := first | omega | assumption | (simp only []; done) | fail) only [vop_move, vcallee_move, vop_load, vcallee_load, vop_binOp, vcallee_binOp, vop_fieldAddr, vcallee_fieldAddr, bin2_tmp, strip_pv, strip_ptr, optV_none, ev_tmp, put_some, at_mk, fits_some, ↓look_cons, ↓vlook_t, ↓vlook_f, guard_none, ↓vrun_nil, ↓code_region, ↓code_seq, ↓onNormal_normal, load_ptr, vld_one, blk_zero, faddr_ptr, vfap_some, bin_int, int_add, int_lss, evG_eq, ↓vrun_cons, ↓run1_some, ↓runG_true, ↓run2_none, ↓run3_some, ↓code_cond, ↓vtest_bool, at_hp, List.getElem?_cons_zero, List.getElem?_cons_succ, Option.map_some, ↓reduceIte, reduceCtorEq, Nat.reduceLT, Nat.reduceBEq, Int.reduceLT, Int.reduceBEq, Nat.zero_add, Nat.add_zero, true_and, Bool.true_and, beq_self_eq_true, Try.vt3, Try.vfield34x0, Try.vfield34x1, wrap_i64_in, dec_t, Rm.d, hn]
    refine vbr_split (fun hc2 => ?_) (fun hc2 => ?_) <;> simp only [decide_eq_true_eq, decide_eq_false_iff_not, Bool.or_eq_true, Bool.and_eq_true, Bool.or_eq_false_iff, Bool.and_eq_false_imp, Bool.not_eq_true', Bool.not_eq_false', beq_iff_eq, beq_eq_false_iff_ne, bne_iff_ne, bne_eq_false_iff_eq, ne_eq] at hc2
    · have hkn : k < n := by omega
      have hug := usedL_get (r.places.map (·.ad)) (r.pages + (k : Int)).toNat (by omega)
      rw [show (((r.pages + (k : Int)).toNat : Nat) : Int) = r.pages + k by omega] at hug
      have hb := hbc (r.pages + (k : Int))
      rw [Rm.d, hn] at hb
      have hsu := freeN_succ r k
      by_cases d1 : r.pages + (k : Int) ∈ r.places.map (·.ad)
      · rw [if_pos (.inl d1), List.append_nil] at hsu
        simp (config := { maxSteps := 2000000 }) (implicitDefEqProofs := false) (disch := first | omega | assumption | (simp only []; done) | fail) only [vop_move, vcallee_move, vop_assign, vcallee_assign, vop_pick, vcallee_pick, vop_load, vcallee_load, vop_binOp, vcallee_binOp, vop_unOp, vcallee_unOp, vop_indexAddr, vcallee_indexAddr, bin2_int, vpick_bool, strip_pv, strip_ptr, strip_tup, optV_none, ev_tmp, ev_const, ofConst_int, ofConst_bool, put_some, at_mk, fits_some, ↓look_cons, ↓vlook_t, ↓vlook_f, guard_none, guard_some, vgof_bool, ↓vrun_nil, ↓code_skip, ↓code_region, ↓code_seq, ↓code_block, ↓onNormal_normal, ↓onBlock_normal, load_ptr, vld_one, blk_zero, blk_succ, iaddr_ptr, viap_some, bin_int, int_add, un_not, evG_eq, ↓vrun_cons, ↓run1_some, ↓runG_true, ↓runG_false, ↓run2_none, ↓run3_some, ↓code_cond, ↓vtest_bool, ↓vbr_false, at_hp, pickV_f, List.getElem?_cons_zero, List.getElem?_cons_succ, Option.map_some, Option.bind_some, Nat.reduceLT, Nat.reduceBEq, Int.reduceLT, Int.reduceBEq, Nat.zero_add, Nat.mul_one, true_and, Bool.not_true, Bool.not_false, Bool.true_and, b_beq_t, beq_self_eq_true, Try.vt4, Try.velem72, wrap_i64_in, dec_t, hug, d1]
        refine ⟨⟨k + 1, by omega⟩, by show n - (k + 1) < n - k; omega, .inl ?_⟩
        dsimp only
        rw [hsu, show r.pages + ((k + 1 : Nat) : Int) = r.pages + (k : Int) + 1 by omega]
        exact (by refine ⟨rfl, rfl, by simp, ?_, ?_, .inr ⟨?_, ?_⟩⟩ <;> (repeat' apply And.intro) <;> first | rfl | trivial | (intro _; first | rfl | apply cells_refs))
      · by_cases d2 : r.pages + (k : Int) ∈ r.bad
        · rw [if_pos (.inr d2), List.append_nil] at hsu
          simp (config := { maxSteps := 2000000 }) (implicitDefEqProofs := false) (disch := first | omega | assumption | (simp only []; done) | fail) only [vop_move, vcallee_move, vop_load, vcallee_load, vop_unOp, vcallee_unOp, vop_indexAddr, vcallee_indexAddr, vcallee_value, vcal_fn, strip_pv, strip_ptr, strip_fn, strip_opt, vstr_true, optV_none, optV_some, ev_tmp, ev_func, put_some, at_mk, fits_some, ↓look_cons, ↓vlook_t, ↓vlook_f, guard_none, guard_some, vgof_bool, ↓code_skip, ↓code_region, ↓code_seq, ↓code_block, ↓onNormal_normal, load_ptr, vld_one, vld_agg, blk_zero, blk_succ, iaddr_ptr, viap_some, un_not, evG_eq, ↓vrun_cons, ↓run1_some, ↓runG_true, ↓run2_none, ↓run2_some, ↓run3_some, at_hp, List.map_nil, List.getElem?_cons_zero, List.getElem?_cons_succ, List.length_cons, List.length_nil, List.map_cons, List.map_nil, List.nil_append, List.append_nil, List.take_succ_cons, List.take_nil, List.drop_zero, Option.map_some, Option.bind_some, ↓reduceIte, Nat.reduceAdd, Nat.reduceLT, Nat.reduceBEq, Int.reduceLT, Int.reduceAdd, Int.reduceBEq, Nat.zero_add, Nat.mul_one, decide_false, true_and, or_true, Bool.not_true, Bool.not_false, Bool.or_true, Bool.true_and, beq_self_eq_true, Nat.le_refl, Try.vt4, Try.vt34, Try.velem72, dec_t, hug, d1]
          refine vc_pure (hb) rfl ?_
          simp (config := { maxSteps := 2000000 }) (implicitDefEqProofs := false) (disch := first | omega | assumption | (simp only []; done) | fail) only [vop_move, vcallee_move, vop_assign, vcallee_assign, vop_pick, vcallee_pick, vop_binOp, vcallee_binOp, vop_unOp, vcallee_unOp, bin2_int, vpick_bool, strip_pv, strip_opt, vstr_true, optV_none, optV_some, pickV_bool, ev_tmp, ev_const, ofConst_int, ofConst_bool, put_some, at_mk, fits_some, ↓look_cons, ↓vlook_t, ↓vlook_f, guard_none, guard_some, vgof_bool, ↓vrun_nil, ↓code_skip, ↓code_region, ↓onNormal_normal, ↓onBlock_normal, bin_int, int_add, un_not, evG_eq, ↓vrun_cons, ↓run1_some, ↓runG_true, ↓run2_none, ↓run3_some, ↓runK_eq, ↓code_cond, ↓vtest_bool, ↓vbr_false, at_hp, List.getElem?_cons_zero, List.getElem?_cons_succ, Option.map_some, Option.bind_some, Nat.reduceLT, Nat.reduceBEq, Int.reduceLT, Int.reduceBEq, true_and, or_true, Bool.not_true, Bool.or_true, Bool.true_and, Bool.cond_self, beq_self_eq_true, wrap_i64_in, dec_t, d2]
          refine ⟨⟨k + 1, by omega⟩, by show n - (k + 1) < n - k; omega, .inl ?_⟩
          dsimp only
          rw [hsu, show r.pages + ((k + 1 : Nat) : Int) = r.pages + (k : Int) + 1 by omega]
          exact (by refine ⟨rfl, rfl, by simp, ?_, ?_, .inr ⟨?_, ?_⟩⟩ <;> (repeat' apply And.intro) <;> first | rfl | trivial | (intro _; first | rfl | apply cells_refs))
        · rw [if_neg (by simp only [d1, d2, or_self, not_false_eq_true])] at hsu
          have hb8 : ((r.freeN k).length + 1) * 8 ≤ 140737488355328 := by omega
          have ht : (cells encI (r.freeN k)).take (r.freeN k).length = cells encI (r.freeN k) := cells_all encI _ _ (by show _ = _ * 1; omega)
          have ha : (cells encI (r.freeN k) ++ [.pv (.lit (.int .i64 (r.pages + (k : Int))))] : List DV) = cells encI (r.freeN (k + 1)) := by rw [hsu]; exact (cells_app encI _ [r.pages + (k : Int)]).symm
          have hl1 : (r.freeN (k + 1)).length = (r.freeN k).length + 1 := by rw [hsu, List.length_append]; rfl
          simp (config := { maxSteps := 2000000 }) (implicitDefEqProofs := false) (disch := first | omega | assumption | (simp only []; done) | fail) only [vop_move, vcallee_move, vop_load, vcallee_load, vop_unOp, vcallee_unOp, vop_indexAddr, vcallee_indexAddr, vcallee_value, vcal_fn, strip_pv, strip_ptr, strip_fn, strip_opt, vstr_true, optV_none, optV_some, ev_tmp, ev_func, put_some, at_mk, fits_some, ↓look_cons, ↓vlook_t, ↓vlook_f, guard_none, guard_some, vgof_bool, ↓code_skip, ↓code_region, ↓code_seq, ↓code_block, ↓onNormal_normal, load_ptr, vld_one, vld_agg, blk_zero, blk_succ, iaddr_ptr, viap_some, un_not, evG_eq, ↓vrun_cons, ↓run1_some, ↓runG_true, ↓run2_none, ↓run2_some, ↓run3_some, at_hp, List.map_nil, List.getElem?_cons_zero, List.getElem?_cons_succ, List.length_cons, List.length_nil, List.map_cons, List.map_nil, List.nil_append, List.append_nil, List.take_succ_cons, List.take_nil, List.drop_zero, Option.map_some, Option.bind_some, ↓reduceIte, Nat.reduceAdd, Nat.reduceLT, Nat.reduceBEq, Int.reduceLT, Int.reduceAdd, Int.reduceBEq, Nat.zero_add, Nat.mul_one, decide_false, true_and, or_true, Bool.not_true, Bool.not_false, Bool.or_true, Bool.true_and, beq_self_eq_true, Nat.le_refl, Try.vt4, Try.vt34, Try.velem72, dec_t, hug, d1]
          refine vc_pure (hb) rfl ?_
          simp (config := { maxSteps := 2000000 }) (implicitDefEqProofs := false) (disch := first | omega | assumption | (simp only []; done) | fail) only [vop_move, vcallee_move, vop_assign, vcallee_assign, vop_pick, vcallee_pick, vop_buildSlice, vcallee_buildSlice, vop_binOp, vcallee_binOp, vop_unOp, vcallee_unOp, vop_builtin, vcallee_builtin, bin2_int, vpick_bool, strip_pv, strip_own, strip_opt, vstr_true, optV_none, optV_some, pickV_bool, ev_tmp, ev_const, ofConst_int, ofConst_bool, put_some, at_mk, fits_some, ↓look_cons, ↓vlook_t, ↓vlook_f, guard_none, guard_some, vgof_bool, ↓vrun_nil, ↓code_region, ↓onNormal_normal, ↓onBlock_normal, blk_zero, blk_succ, allOne_nil, allOne_cons, one_pv, bin_int, int_add, un_not, bi_append, ap2_own, parts_nil, parts_cons, evG_eq, ↓vrun_cons, ↓run1_some, ↓runG_true, ↓run2_none, ↓run3_some, ↓runK_eq, ↓code_cond, ↓vtest_bool, ↓vbr_true, at_hp, List.map_nil, dcells, vfill, vbuildSlice, V.mk, vsrc, vbase, vappend, V.kill, V.splice, List.getElem?_cons_zero, List.getElem?_cons_succ, List.length_cons, List.length_nil, List.map_cons, List.map_nil, List.cons_append, List.nil_append, List.append_nil, List.take_succ_cons, List.take_zero, List.take_nil, List.drop_succ_cons, List.drop_zero, List.drop_nil, List.set_cons_zero, List.set_cons_succ, Option.map_some, Option.bind_some, ↓reduceIte, Nat.reduceAdd, Nat.reduceLT, Nat.reduceLeDiff, Nat.reduceBEq, Int.reduceLT, Int.reduceAdd, Int.reduceBEq, Nat.zero_add, Nat.mul_one, decide_false, true_and, and_self, or_true, Bool.not_true, Bool.not_false, Bool.or_true, Bool.true_and, Bool.and_self, cond_true, beq_self_eq_true, Nat.le_refl, cellsI_len, Try.vzero3, Try.bytes3, Try.velem32, Try.notInt32, wrap_i64_in, dec_t, d2, cellsI_len, hb8, ht, ha]
          refine ⟨⟨k + 1, by omega⟩, by show n - (k + 1) < n - k; omega, ?_⟩
          dsimp only
          rw [hl1, show r.pages + ((k + 1 : Nat) : Int) = r.pages + (k : Int) + 1 by omega]
          exact (by refine gc_of (keep := [0, 1, 4]) rfl rfl rfl (by decide) ?_ ?_ <;> (repeat' apply And.intro) <;> first | trivial | rfl | exact ⟨_, rfl, rfl, rfl, .inl ⟨rfl, rfl⟩⟩ | exact ⟨_, rfl, rfl, rfl, .inl ⟨cells_nums _ _ _, rfl⟩⟩ | exact ⟨_, rfl, rfl, rfl, .inl ⟨pvs_nums _ _, rfl⟩⟩ | exact ⟨_, rfl, rfl, rfl, .inr ⟨rfl, rfl⟩⟩)
    · have hkn : k = n := by omega
      subst hkn
      have hfs : r.freeS = r.freeN k := by rw [Rm.freeS, hn]; rfl
      rw [hfs]
      simp (config := { maxSteps := 2000000 }) (implicitDefEqProofs := false) (disch := first | omega | assumption | (simp only []; done) | fail) only [vop_move, vcallee_move, vop_assign, vcallee_assign, strip_own, optV_none, ev_tmp, put_some, at_mk, fits_some, ↓look_cons, ↓vlook_t, ↓vlook_f, guard_none, ↓vrun_nil, ↓code_region, ↓code_seq, ↓code_exit, ↓code_ret, ↓onNormal_normal, ↓onNormal_exit, ↓onBlock_exit, frz_own, frz1_own, frzHeap_zero, res_one, vres_tmp, blk_zero, blk_succ, evG_eq, ↓vrun_cons, ↓run1_some, ↓runG_true, ↓run2_none, ↓run3_some, ↓vpost_ret, vfin_some, vfin2_some, at_hp, Option.map_some, ↓reduceIte, Nat.reduceLT, Nat.reduceBEq, Int.reduceLT, Int.reduceBEq, and_self, Bool.and_self, beq_self_eq_true, frzP_own, dec_t, dec_f, Ret, DV.nums, frzC_I rfl]
end Go.Proofs.Ytnilcppifcekmaa
namespace Go.Proofs.Ytnilcppifcekmaa
open Go.V Go
def Rm0 : Rm := ⟨0, 0, [], []⟩
def insB (l : List Int) (a : Int) : List Int := l.take (lo l fun x => decide (x < a)) ++ a :: l.drop (lo l fun x => decide (x < a))
def setP (l : List Pl) (n f : Int) : List Pl := if pfound l n = true then l.set (plo l n) ⟨n, f⟩ else l.take (plo l n) ++ ⟨n, f⟩ :: l.drop (plo l n)
def remD (r : Rm) (p e : Int) : DV := .tup [.agg r.d, .int .i64 p, .int .i64 e]
def Rm.markS (r : Rm) (a : Int) : Rm × Int × Int :=
  if r.okB = true then
    if a < 0 ∨ r.pages + r.spares ≤ a then (Rm0, 0, 1)
    else if a ∈ r.bad then (r, -1, 0)
    else match r.ownerS a with
      | none => ({ r with bad := insB r.bad a }, -1, 0)
      | some n => match r.freeS with
        | [] => (Rm0, 0, 47)
        | f :: _ => (⟨r.pages, r.spares, setP r.places n f, insB r.bad a⟩, n, 0)
  else (Rm0, 0, 48)
theorem insB_len (l : List Int) (a : Int) : (insB l a).length = l.length + 1 := by
  have := lo_le l (fun x => decide (x < a))
  simp only [insB, List.length_append, List.length_cons, List.length_take, List.length_drop]
  omega
theorem owner_rng (r : Rm) (h : r.Ok) (a n : Int) (e : r.ownerS a = some n) : 0 ≤ n ∧ n < r.pages := by
  unfold Rm.ownerS at e
  split at e
  · cases e
  · rename_i h1
    split at e
    · rename_i h2; cases e; omega
    · cases hf : (r.places.find? fun p => p.ad == a) with
      | none => rw [hf] at e; cases e
      | some p =>
        rw [hf] at e
        have hm := List.mem_of_find?_eq_some hf
        have := h.prng p hm
        simp only [Option.map_some, Option.some.injEq] at e
        omega
theorem cells_setP (l : List Pl) (i : Nat) (p : Pl) (h : i < l.length) : splice (cells encP l) (i * 2) [.pv (.lit (.int .i64 p.pg)), .pv (.lit (.int .i64 p.ad))] = cells encP (l.set i p) := by
  have := splice_cells encP l [p] i
  rw [show encP.sz = 2 from rfl] at this
  rw [show ([.pv (.lit (.int .i64 p.pg)), .pv (.lit (.int .i64 p.ad))] : List DV) = cells encP [p] from rfl, this]
  congr 1
  rw [List.set_eq_take_append_cons_drop, if_pos h]
  simp
theorem cells_setPx (l : List Pl) (i : Nat) (p : Pl) (h : i < l.length) : (cells encP l).take (i * 2) ++ [.pv (.lit (.int .i64 p.pg)), .pv (.lit (.int .i64 p.ad))] ++ (cells encP l).drop (i * 2 + 2) = cells encP (l.set i p) := cells_setP l i p h
theorem frzC_P {n : Nat} {hp : Heap} {len : Nat} {l : List Pl} (h : l.length = len) : frzC n hp 0 2 len (some (cells encP l)) = some (.sl (fz encP l)) := frzC_cells encP h
theorem new_v (n m : Int) : VCalls Try.prog 17 [.int .i64 n, .int .i64 m] [] (Ret (if (⟨n, m, [], []⟩ : Rm).okB = true then .tup [.agg (⟨n, m, [], []⟩ : Rm).d, .int .i64 0] else .tup [.agg Rm0.d, .int .i64 1])) := by
  refine VCalls.unwk ?_
  refine dd Try.func17 ?_
  have hv := qvalid_v ⟨n, m, [], []⟩ ⟨by simp, by simp⟩
  simp (config := { maxSteps := 2000000 }) (implicitDefEqProofs := false) (disch := first | omega | assumption | (simp only []; done) | fail) only [vop_move, vcallee_move, vop_assign, vcallee_assign, vop_alloc, vcallee_alloc, vop_build, vcallee_build, vop_load, vcallee_load, vop_store, vcallee_store, vcallee_value, vcal_fn, strip_pv, strip_ptr, strip_agg, strip_fn, optV_none, ev_tmp, ev_const, ev_func, ofConst_int, put_some, put_none, at_mk, fits_some, fits_none, ↓look_cons, ↓vlook_t, ↓vlook_f, guard_none, ↓vrun_nil, ↓code_region, ↓code_seq, ↓onNormal_normal, load_ptr, vld_agg, store_ptr, vst_agg, blk_zero, blk_succ, set_zero, set_succ, alloc_eq, val1_some, allOne_nil, allOne_cons, one_pv, parts_nil, parts_cons, enum_nil, enum_cons, evG_eq, ↓vrun_cons, ↓run1_some, ↓runG_true, ↓run2_none, ↓run2_some, ↓run3_some, at_hp, List.map_nil, dcells, vbuild, vfill, V.splice, List.toList_toArray, List.getElem?_cons_zero, List.getElem?_cons_succ, List.length_cons, List.length_nil, List.map_cons, List.map_nil, List.cons_append, List.nil_append, List.append_nil, List.take_succ_cons, List.take_zero, List.take_nil, List.drop_succ_cons, List.drop_zero, List.drop_nil, Option.map_some, ↓reduceIte, Nat.reduceAdd, Nat.reduceLT, Nat.reduceLeDiff, Nat.reduceBEq, Int.reduceLT, Int.reduceAdd, Int.reduceBEq, Nat.zero_add, true_and, and_self, Bool.true_and, Bool.and_self, beq_self_eq_true, Nat.le_refl, Try.vt34, Try.vplaces34, Try.vzero34, dec_t, Try.f17]
  refine vc_pure (VCalls.wkA hv) rfl ?_
  by_cases ho : (⟨n, m, [], []⟩ : Rm).okB = true
  · rw [if_pos ho]
    simp (config := { maxSteps := 2000000 }) (implicitDefEqProofs := false) (disch := first | omega | assumption | (simp only []; done) | fail) only [vop_assign, vcallee_assign, vop_load, vcallee_load, vop_store, vcallee_store, vop_unOp, vcallee_unOp, strip_pv, strip_ptr, strip_agg, optV_none, ev_tmp, ev_const, ofConst_int, put_some, put_none, at_mk, fits_some, fits_none, ↓look_cons, ↓vlook_t, ↓vlook_f, guard_none, ↓vrun_nil, ↓code_skip, ↓code_region, ↓code_seq, ↓code_ret, ↓onNormal_normal, frz_tup, frzT_agg, frzT_pv, frz1_pv, allSome_nil, allSome_cons, frzHeap_zero, res_two, vres_tmp, vres_cell, load_ptr, vld_agg, store_ptr, vst_agg, blk_zero, blk_succ, set_zero, allOne_nil, allOne_cons, one_pv, un_not, evG_eq, ↓vrun_cons, ↓run1_some, ↓runG_true, ↓run2_none, ↓run3_some, ↓runK_eq, ↓code_cond, ↓vtest_bool, ↓vbr_false, ↓vpost_ret, vfin_some, vfin2_some, at_hp, List.map_nil, V.splice, List.length_cons, List.length_nil, List.map_cons, List.map_nil, List.nil_append, List.append_nil, List.take_succ_cons, List.take_zero, List.take_nil, List.drop_succ_cons, List.drop_zero, List.drop_nil, Option.map_some, ↓reduceIte, Nat.reduceAdd, Nat.reduceLT, Nat.reduceBEq, Int.reduceLT, Int.reduceAdd, Int.reduceBEq, Nat.zero_add, true_and, and_self, Bool.not_true, Bool.true_and, Bool.and_self, beq_self_eq_true, Nat.le_refl, RetW, DV.wk, DV.wk.go, PV.wk, Try.vt34, dec_t, DV.nums, DV.nums.go, ho]
    rfl
  · have ho' : (⟨n, m, [], []⟩ : Rm).okB = false := by simpa using ho
    rw [if_neg ho]
    simp (config := { maxSteps := 2000000 }) (implicitDefEqProofs := false) (disch := first | omega | assumption | (simp only []; done) | fail) only [vop_assign, vcallee_assign, vop_build, vcallee_build, vop_store, vcallee_store, vop_unOp, vcallee_unOp, strip_pv, strip_ptr, strip_agg, optV_none, ev_tmp, ev_const, ofConst_int, put_some, put_none, at_mk, fits_some, fits_none, ↓look_cons, ↓vlook_t, ↓vlook_f, guard_none, ↓vrun_nil, ↓code_region, ↓code_seq, ↓code_ret, ↓onNormal_normal, ↓onNormal_ret, frz_tup, frzT_agg, frzT_pv, frz1_pv, allSome_nil, allSome_cons, frzHeap_zero, res_two, vres_tmp, vres_cell, load_ptr, vld_agg, store_ptr, vst_agg, blk_zero, set_zero, allOne_nil, allOne_cons, one_pv, un_not, parts_nil, evG_eq, ↓vrun_cons, ↓run1_some, ↓runG_true, ↓run2_none, ↓run3_some, ↓runK_eq, ↓code_cond, ↓vtest_bool, ↓vbr_true, ↓vpost_ret, vfin_some, vfin2_some, at_hp, List.map_nil, vbuild, vfill, V.splice, List.length_cons, List.length_nil, List.map_cons, List.map_nil, List.nil_append, List.append_nil, List.take_succ_cons, List.take_zero, List.take_nil, List.drop_succ_cons, List.drop_zero, List.drop_nil, Option.map_some, ↓reduceIte, Nat.reduceAdd, Nat.reduceLT, Nat.reduceBEq, Int.reduceLT, Int.reduceAdd, Int.reduceBEq, Nat.zero_add, true_and, and_self, Bool.not_false, Bool.true_and, Bool.and_self, beq_self_eq_true, Nat.le_refl, RetW, DV.wk, DV.wk.go, PV.wk, Try.vt34, Try.vplaces34, Try.vzero34, dec_t, DV.nums, DV.nums.go, ho']
    rfl
end Go.Proofs.Ytnilcppifcekmaa
namespace Go.Proofs.Ytnilcppifcekmaa
open Go.V Go
theorem cellsP_len (l : List Pl) : (cells encP l).length = l.length * 2 := cells_len encP l
theorem mark_v (r : Rm) (hs : r.sm) (a : Int) : VCalls Try.prog 18 [.agg r.d, .int .i64 a] [] (Ret (remD (r.markS a).1 (r.markS a).2.1 (r.markS a).2.2)) := by
  refine VCalls.unwk ?_
  refine dd Try.func18 ?_
  have hv := qvalid_v r hs
  have ho1 := owner_v r hs a
  unfold Rm.markS
  by_cases ho : r.okB = true
  · have hok := (ok_iff r).1 ho
    have hb := bad_v r hs.2 hok.basc a
    have hfr := free_v r hok hs
    have hbs := bsearchI_v r.bad (by have := hs.2; omega) a (asc_fore r.bad hok.basc a)
    have hlo := lo_le r.bad (fun x => decide (x < a))
    have p1 := hok.p1
    have s1 := hok.s1
    have p2 := hok.p2
    have q3 := hok.s3
    obtain ⟨hs1, hs2⟩ := hs
    rw [ho] at hv
    rw [if_pos ho] at ho1 ⊢
    by_cases h1 : a < 0
    · rw [if_pos (.inl h1)]
      simp (config := { maxSteps := 2000000 }) (implicitDefEqProofs := false) (disch := first | omega | assumption | (simp only []; done) | fail) only [vop_assign, vcallee_assign, vop_alloc, vcallee_alloc, vop_box, vcallee_box, vop_load, vcallee_load, vcallee_value, vcal_fn, strip_pv, strip_ptr, strip_agg, strip_fn, optV_none, ev_tmp, ev_const, ev_func, ofConst_int, put_some, at_mk, fits_some, ↓look_cons, ↓vlook_t, ↓vlook_f, guard_none, ↓vrun_nil, ↓code_region, ↓code_seq, ↓code_block, ↓onNormal_normal, load_ptr, vld_agg, blk_zero, box_eq, alloc_eq, val1_some, allOne_nil, allOne_cons, one_pv, enum_nil, enum_cons, evG_eq, ↓vrun_cons, ↓run1_some, ↓runG_true, ↓run2_none, ↓run2_some, ↓run3_some, at_hp, List.map_nil, dcells, List.toList_toArray, List.length_cons, List.length_nil, List.map_cons, List.map_nil, List.cons_append, List.nil_append, List.append_nil, List.take_succ_cons, List.take_nil, List.drop_zero, Option.map_some, ↓reduceIte, Nat.reduceAdd, Nat.reduceLT, Nat.reduceBEq, Int.reduceLT, Int.reduceNeg, Int.reduceAdd, Int.reduceBEq, Nat.zero_add, true_and, and_self, Bool.true_and, Bool.and_self, beq_self_eq_true, Nat.le_refl, Try.vt34, Try.vzero34, dec_t, Try.f18, Rm.d]
      refine vc_pure hv rfl ?_
      simp (config := { maxSteps := 2000000 }) (implicitDefEqProofs := false) (disch := first | omega | assumption | (simp only []; done) | fail) only [vop_move, vcallee_move, vop_assign, vcallee_assign, vop_pick, vcallee_pick, vop_build, vcallee_build, vop_store, vcallee_store, vop_binOp, vcallee_binOp, vop_unOp, vcallee_unOp, bin2_int, vpick_bool, strip_pv, strip_ptr, strip_agg, strip_tup, optV_none, ev_tmp, ev_const, ofConst_int, ofConst_bool, put_some, put_none, at_mk, fits_some, fits_none, ↓look_cons, ↓vlook_t, ↓vlook_f, guard_none, guard_some, vgof_bool, ↓vrun_nil, ↓code_region, ↓code_seq, ↓code_ret, ↓onNormal_normal, ↓onNormal_ret, ↓onBlock_ret, frz_tup, frzT_agg, frzT_pv, frz1_pv, allSome_nil, allSome_cons, frzHeap_zero, res_two, vres_tmp, vres_cell, load_ptr, vld_agg, store_ptr, vst_agg, blk_zero, blk_succ, set_zero, set_succ, allOne_nil, allOne_cons, one_pv, bin_int, int_lss, un_not, parts_nil, evG_eq, ↓vrun_cons, ↓run1_some, ↓runG_true, ↓runG_false, ↓run2_none, ↓run3_some, ↓runK_eq, ↓code_cond, ↓vtest_bool, ↓vbr_true, ↓vbr_false, ↓vpost_ret, vfin_some, vfin2_some, at_hp, pickV_t, List.map_nil, vbuild, vfill, V.splice, List.getElem?_cons_zero, List.getElem?_cons_succ, List.length_cons, List.length_nil, List.map_cons, List.map_nil, List.nil_append, List.append_nil, List.take_succ_cons, List.take_zero, List.take_nil, List.drop_succ_cons, List.drop_zero, List.drop_nil, Option.map_some, Option.bind_some, ↓reduceIte, Nat.reduceAdd, Nat.reduceLT, Nat.reduceBEq, Int.reduceLT, Int.reduceNeg, Int.reduceAdd, Int.reduceBEq, Nat.zero_add, true_and, and_self, Bool.not_true, Bool.true_and, Bool.and_self, b_beq_f, beq_self_eq_true, Nat.le_refl, RetW, DV.wk, DV.wk.go, PV.wk, Try.vt34, Try.vplaces34, Try.vzero34, dec_t, DV.nums, DV.nums.go, h1]
      rfl
    by_cases h2 : r.pages + r.spares ≤ a
    · rw [if_pos (.inr h2)]
      simp (config := { maxSteps := 2000000 }) (implicitDefEqProofs := false) (disch := first | omega | assumption | (simp only []; done) | fail) only [vop_assign, vcallee_assign, vop_alloc, vcallee_alloc, vop_box, vcallee_box, vop_load, vcallee_load, vcallee_value, vcal_fn, strip_pv, strip_ptr, strip_agg, strip_fn, optV_none, ev_tmp, ev_const, ev_func, ofConst_int, put_some, at_mk, fits_some, ↓look_cons, ↓vlook_t, ↓vlook_f, guard_none, ↓vrun_nil, ↓code_region, ↓code_seq, ↓code_block, ↓onNormal_normal, load_ptr, vld_agg, blk_zero, box_eq, alloc_eq, val1_some, allOne_nil, allOne_cons, one_pv, enum_nil, enum_cons, evG_eq, ↓vrun_cons, ↓run1_some, ↓runG_true, ↓run2_none, ↓run2_some, ↓run3_some, at_hp, List.map_nil, dcells, List.toList_toArray, List.length_cons, List.length_nil, List.map_cons, List.map_nil, List.cons_append, List.nil_append, List.append_nil, List.take_succ_cons, List.take_nil, List.drop_zero, Option.map_some, ↓reduceIte, Nat.reduceAdd, Nat.reduceLT, Nat.reduceBEq, Int.reduceLT, Int.reduceNeg, Int.reduceAdd, Int.reduceBEq, Nat.zero_add, true_and, and_self, Bool.true_and, Bool.and_self, beq_self_eq_true, Nat.le_refl, Try.vt34, Try.vzero34, dec_t, Try.f18, Rm.d]
      refine vc_pure hv rfl ?_
      simp (config := { maxSteps := 2000000 }) (implicitDefEqProofs := false) (disch := first | omega | assumption | (simp only []; done) | fail) only [vop_move, vcallee_move, vop_assign, vcallee_assign, vop_pick, vcallee_pick, vop_build, vcallee_build, vop_load, vcallee_load, vop_store, vcallee_store, vop_binOp, vcallee_binOp, vop_unOp, vcallee_unOp, vop_fieldAddr, vcallee_fieldAddr, bin2_tmp, bin2_int, vpick_bool, strip_pv, strip_ptr, strip_agg, strip_opt, vstr_true, optV_none, optV_some, pickV_bool, ev_tmp, ev_const, ofConst_int, ofConst_bool, put_some, put_none, at_mk, fits_some, fits_none, ↓look_cons, ↓vlook_t, ↓vlook_f, guard_none, guard_some, vgof_bool, ↓vrun_nil, ↓code_region, ↓code_seq, ↓code_ret, ↓onNormal_normal, ↓onNormal_ret, ↓onBlock_ret, frz_tup, frzT_agg, frzT_pv, frz1_pv, allSome_nil, allSome_cons, frzHeap_zero, res_two, vres_tmp, vres_cell, load_ptr, vld_one, vld_agg, store_ptr, vst_agg, blk_zero, blk_succ, set_zero, set_succ, allOne_nil, allOne_cons, one_pv, faddr_ptr, vfap_some, bin_int, int_add, int_lss, int_geq, un_not, parts_nil, evG_eq, ↓vrun_cons, ↓run1_some, ↓runG_true, ↓run2_none, ↓run3_some, ↓runK_eq, ↓code_cond, ↓vtest_bool, ↓vbr_true, ↓vbr_false, ↓vpost_ret, vfin_some, vfin2_some, at_hp, List.map_nil, vbuild, vfill, V.splice, List.getElem?_cons_zero, List.getElem?_cons_succ, List.length_cons, List.length_nil, List.map_cons, List.map_nil, List.nil_append, List.append_nil, List.take_succ_cons, List.take_zero, List.take_nil, List.drop_succ_cons, List.drop_zero, List.drop_nil, Option.map_some, Option.bind_some, ↓reduceIte, reduceCtorEq, Nat.reduceAdd, Nat.reduceLT, Nat.reduceBEq, Int.reduceLT, Int.reduceNeg, Int.reduceAdd, Int.reduceBEq, Nat.zero_add, Nat.add_zero, decide_false, true_and, and_self, or_true, Bool.not_true, Bool.not_false, Bool.or_true, Bool.true_and, Bool.and_self, Bool.cond_self, beq_self_eq_true, Nat.le_refl, RetW, DV.wk, DV.wk.go, PV.wk, Try.vt3, Try.vt34, Try.vfield34x0, Try.vfield34x1, Try.vplaces34, Try.vzero34, wrap_i64_in, dec_t, DV.nums, DV.nums.go, h1, h2]
      rfl
    rw [if_neg (by omega)]
    by_cases h3 : a ∈ r.bad
    · rw [if_pos h3]
      simp (config := { maxSteps := 2000000 }) (implicitDefEqProofs := false) (disch := first | omega | assumption | (simp only []; done) | fail) only [vop_assign, vcallee_assign, vop_alloc, vcallee_alloc, vop_box, vcallee_box, vop_load, vcallee_load, vcallee_value, vcal_fn, strip_pv, strip_ptr, strip_agg, strip_fn, optV_none, ev_tmp, ev_const, ev_func, ofConst_int, put_some, at_mk, fits_some, ↓look_cons, ↓vlook_t, ↓vlook_f, guard_none, ↓vrun_nil, ↓code_region, ↓code_seq, ↓code_block, ↓onNormal_normal, load_ptr, vld_agg, blk_zero, box_eq, alloc_eq, val1_some, allOne_nil, allOne_cons, one_pv, enum_nil, enum_cons, evG_eq, ↓vrun_cons, ↓run1_some, ↓runG_true, ↓run2_none, ↓run2_some, ↓run3_some, at_hp, List.map_nil, dcells, List.toList_toArray, List.length_cons, List.length_nil, List.map_cons, List.map_nil, List.cons_append, List.nil_append, List.append_nil, List.take_succ_cons, List.take_nil, List.drop_zero, Option.map_some, ↓reduceIte, Nat.reduceAdd, Nat.reduceLT, Nat.reduceBEq, Int.reduceLT, Int.reduceNeg, Int.reduceAdd, Int.reduceBEq, Nat.zero_add, true_and, and_self, Bool.true_and, Bool.and_self, beq_self_eq_true, Nat.le_refl, Try.vt34, Try.vzero34, dec_t, Try.f18, Rm.d]
      refine vc_pure hv rfl ?_
      simp (config := { maxSteps := 2000000 }) (implicitDefEqProofs := false) (disch := first | omega | assumption | (simp only []; done) | fail) only [vop_move, vcallee_move, vop_assign, vcallee_assign, vop_pick, vcallee_pick, vop_load, vcallee_load, vop_binOp, vcallee_binOp, vop_unOp, vcallee_unOp, vop_fieldAddr, vcallee_fieldAddr, vcallee_value, vcal_fn, bin2_tmp, bin2_int, vpick_bool, strip_pv, strip_ptr, strip_agg, strip_fn, strip_opt, vstr_true, optV_none, optV_some, pickV_bool, ev_tmp, ev_const, ev_func, ofConst_int, ofConst_bool, put_some, at_mk, fits_some, ↓look_cons, ↓vlook_t, ↓vlook_f, guard_none, guard_some, vgof_bool, ↓vrun_nil, ↓code_region, ↓code_seq, ↓onNormal_normal, load_ptr, vld_one, vld_agg, blk_zero, faddr_ptr, vfap_some, bin_int, int_add, int_lss, int_geq, un_not, evG_eq, ↓vrun_cons, ↓run1_some, ↓runG_true, ↓run2_none, ↓run2_some, ↓run3_some, ↓runK_eq, ↓code_cond, ↓vtest_bool, ↓vbr_false, at_hp, List.map_nil, List.getElem?_cons_zero, List.getElem?_cons_succ, List.length_cons, List.length_nil, List.map_cons, List.map_nil, List.nil_append, List.append_nil, List.take_succ_cons, List.take_nil, List.drop_zero, Option.map_some, Option.bind_some, ↓reduceIte, reduceCtorEq, Nat.reduceAdd, Nat.reduceLT, Nat.reduceBEq, Int.reduceLT, Int.reduceNeg, Int.reduceAdd, Int.reduceBEq, Nat.zero_add, Nat.add_zero, decide_false, true_and, or_true, Bool.not_true, Bool.not_false, Bool.or_true, Bool.true_and, cond_false, beq_self_eq_true, Nat.le_refl, Try.vt3, Try.vt34, Try.vfield34x0, Try.vfield34x1, wrap_i64_in, dec_t, h1, h2]
      refine vc_pure hb rfl ?_
      simp (config := { maxSteps := 2000000 }) (implicitDefEqProofs := false) (disch := first | omega | assumption | (simp only []; done) | fail) only [vop_assign, vcallee_assign, vop_load, vcallee_load, vop_store, vcallee_store, strip_pv, strip_ptr, strip_agg, optV_none, ev_tmp, ev_const, ofConst_int, put_some, put_none, at_mk, fits_some, fits_none, ↓look_cons, ↓vlook_t, ↓vlook_f, guard_none, ↓vrun_nil, ↓code_region, ↓code_seq, ↓code_ret, ↓onNormal_normal, ↓onNormal_ret, ↓onBlock_ret, frz_tup, frzT_agg, frzT_pv, frz1_pv, allSome_nil, allSome_cons, frzHeap_zero, res_two, vres_tmp, vres_cell, load_ptr, vld_agg, store_ptr, vst_agg, blk_zero, blk_succ, set_zero, set_succ, allOne_nil, allOne_cons, one_pv, evG_eq, ↓vrun_cons, ↓run1_some, ↓runG_true, ↓run2_none, ↓run3_some, ↓runK_eq, ↓code_cond, ↓vtest_bool, ↓vbr_true, ↓vpost_ret, vfin_some, vfin2_some, at_hp, List.map_nil, V.splice, List.length_cons, List.length_nil, List.map_cons, List.map_nil, List.nil_append, List.append_nil, List.take_succ_cons, List.take_zero, List.take_nil, List.drop_succ_cons, List.drop_zero, List.drop_nil, Option.map_some, ↓reduceIte, Nat.reduceAdd, Nat.reduceLT, Nat.reduceBEq, Int.reduceLT, Int.reduceNeg, Int.reduceAdd, Int.reduceBEq, Nat.zero_add, true_and, and_self, Bool.true_and, Bool.and_self, beq_self_eq_true, Nat.le_refl, RetW, DV.wk, DV.wk.go, PV.wk, Try.vt34, dec_t, DV.nums, DV.nums.go, h3]
      rfl
    rw [if_neg h3]
    simp (config := { maxSteps := 2000000 }) (implicitDefEqProofs := false) (disch := first | omega | assumption | (simp only []; done) | fail) only [vop_assign, vcallee_assign, vop_alloc, vcallee_alloc, vop_box, vcallee_box, vop_load, vcallee_load, vcallee_value, vcal_fn, strip_pv, strip_ptr, strip_agg, strip_fn, optV_none, ev_tmp, ev_const, ev_func, ofConst_int, put_some, at_mk, fits_some, ↓look_cons, ↓vlook_t, ↓vlook_f, guard_none, ↓vrun_nil, ↓code_region, ↓code_seq, ↓code_block, ↓onNormal_normal, load_ptr, vld_agg, blk_zero, box_eq, alloc_eq, val1_some, allOne_nil, allOne_cons, one_pv, enum_nil, enum_cons, evG_eq, ↓vrun_cons, ↓run1_some, ↓runG_true, ↓run2_none, ↓run2_some, ↓run3_some, at_hp, List.map_nil, dcells, List.toList_toArray, List.length_cons, List.length_nil, List.map_cons, List.map_nil, List.cons_append, List.nil_append, List.append_nil, List.take_succ_cons, List.take_nil, List.drop_zero, Option.map_some, ↓reduceIte, Nat.reduceAdd, Nat.reduceLT, Nat.reduceBEq, Int.reduceLT, Int.reduceNeg, Int.reduceAdd, Int.reduceBEq, Nat.zero_add, true_and, and_self, Bool.true_and, Bool.and_self, beq_self_eq_true, Nat.le_refl, Try.vt34, Try.vzero34, dec_t, Try.f18, Rm.d]
    refine vc_pure hv rfl ?_
    simp (config := { maxSteps := 2000000 }) (implicitDefEqProofs := false) (disch := first | omega | assumption | (simp only []; done) | fail) only [vop_move, vcallee_move, vop_assign, vcallee_assign, vop_pick, vcallee_pick, vop_load, vcallee_load, vop_binOp, vcallee_binOp, vop_unOp, vcallee_unOp, vop_fieldAddr, vcallee_fieldAddr, vcallee_value, vcal_fn, bin2_tmp, bin2_int, vpick_bool, strip_pv, strip_ptr, strip_agg, strip_fn, strip_opt, vstr_true, optV_none, optV_some, pickV_bool, ev_tmp, ev_const, ev_func, ofConst_int, ofConst_bool, put_some, at_mk, fits_some, ↓look_cons, ↓vlook_t, ↓vlook_f, guard_none, guard_some, vgof_bool, ↓vrun_nil, ↓code_region, ↓code_seq, ↓onNormal_normal, load_ptr, vld_one, vld_agg, blk_zero, faddr_ptr, vfap_some, bin_int, int_add, int_lss, int_geq, un_not, evG_eq, ↓vrun_cons, ↓run1_some, ↓runG_true, ↓run2_none, ↓run2_some, ↓run3_some, ↓runK_eq, ↓code_cond, ↓vtest_bool, ↓vbr_false, at_hp, List.map_nil, List.getElem?_cons_zero, List.getElem?_cons_succ, List.length_cons, List.length_nil, List.map_cons, List.map_nil, List.nil_append, List.append_nil, List.take_succ_cons, List.take_nil, List.drop_zero, Option.map_some, Option.bind_some, ↓reduceIte, reduceCtorEq, Nat.reduceAdd, Nat.reduceLT, Nat.reduceBEq, Int.reduceLT, Int.reduceNeg, Int.reduceAdd, Int.reduceBEq, Nat.zero_add, Nat.add_zero, decide_false, true_and, or_true, Bool.not_true, Bool.not_false, Bool.or_true, Bool.true_and, cond_false, beq_self_eq_true, Nat.le_refl, Try.vt3, Try.vt34, Try.vfield34x0, Try.vfield34x1, wrap_i64_in, dec_t, h1, h2]
    refine vc_pure hb rfl ?_
    simp (config := { maxSteps := 2000000 }) (implicitDefEqProofs := false) (disch := first | omega | assumption | (simp only []; done) | fail) only [vop_move, vcallee_move, vop_assign, vcallee_assign, vop_load, vcallee_load, vcallee_value, vcal_fn, strip_pv, strip_ptr, strip_agg, strip_fn, optV_none, ev_tmp, ev_func, put_some, at_mk, fits_some, ↓look_cons, ↓vlook_t, ↓vlook_f, guard_none, ↓vrun_nil, ↓code_skip, ↓code_region, ↓code_seq, ↓onNormal_normal, ↓onBlock_normal, load_ptr, vld_agg, blk_zero, evG_eq, ↓vrun_cons, ↓run1_some, ↓runG_true, ↓run2_none, ↓run2_some, ↓run3_some, ↓runK_eq, ↓code_cond, ↓vtest_bool, ↓vbr_false, at_hp, List.map_nil, List.length_cons, List.length_nil, List.map_cons, List.map_nil, List.nil_append, List.append_nil, List.take_succ_cons, List.take_nil, List.drop_zero, Option.map_some, ↓reduceIte, Nat.reduceAdd, Nat.reduceLT, Nat.reduceBEq, Int.reduceLT, Int.reduceNeg, Int.reduceAdd, Int.reduceBEq, Nat.zero_add, decide_false, true_and, Bool.true_and, beq_self_eq_true, Nat.le_refl, Try.vt34, dec_t, h3]
    refine vc_pure ho1 rfl ?_
    have hins := insertI_v r.bad a (lo r.bad fun x => decide (x < a)) hlo (by omega)
    have hil := insB_len r.bad a
    cases e : r.ownerS a with
    | none =>
      simp (config := { maxSteps := 2000000 }) (implicitDefEqProofs := false) (disch := first | omega | assumption | (simp only []; done) | fail) only [vop_move, vcallee_move, vop_assign, vcallee_assign, vop_alloc, vcallee_alloc, vop_load, vcallee_load, vop_store, vcallee_store, vop_fieldAddr, vcallee_fieldAddr, vop_extract, vcallee_extract, vcallee_value, vcal_fn, strip_pv, strip_ptr, strip_agg, strip_tup, strip_fn, optV_none, ev_tmp, ev_func, put_some, put_none, at_mk, fits_some, fits_none, ↓look_cons, ↓vlook_t, ↓vlook_f, guard_none, ↓vrun_nil, ↓code_region, ↓code_seq, ↓onNormal_normal, load_ptr, vld_one, vld_agg, store_ptr, vst_agg, blk_zero, blk_succ, set_zero, set_succ, alloc_eq, val1_some, allOne_nil, allOne_cons, one_pv, faddr_ptr, vfap_some, ext_tup, evG_eq, ↓vrun_cons, ↓run1_some, ↓runG_true, ↓run2_none, ↓run2_some, ↓run3_some, ↓runK_eq, at_hp, List.map_nil, V.splice, List.getElem?_cons_zero, List.getElem?_cons_succ, List.length_cons, List.length_nil, List.map_cons, List.map_nil, List.cons_append, List.nil_append, List.append_nil, List.take_succ_cons, List.take_zero, List.take_nil, List.drop_succ_cons, List.drop_zero, List.drop_nil, Option.map_some, ↓reduceIte, reduceCtorEq, Nat.reduceAdd, Nat.reduceLT, Nat.reduceBEq, Int.reduceLT, Int.reduceNeg, Int.reduceAdd, Int.reduceBEq, Nat.zero_add, true_and, and_self, Bool.true_and, Bool.and_self, beq_self_eq_true, Nat.le_refl, Try.vt32, Try.vt34, Try.vfield34x3, Try.vzero34, dec_t, ownD]
      refine vc_pure hbs rfl ?_
      simp (config := { maxSteps := 2000000 }) (implicitDefEqProofs := false) (disch := first | omega | assumption | (simp only []; done) | fail) only [vop_move, vcallee_move, vop_assign, vcallee_assign, vop_load, vcallee_load, vop_fieldAddr, vcallee_fieldAddr, vop_extract, vcallee_extract, vcallee_value, vcal_fn, strip_pv, strip_ptr, strip_tup, strip_fn, optV_none, ev_tmp, ev_func, put_some, at_mk, fits_some, ↓look_cons, ↓vlook_t, ↓vlook_f, guard_none, ↓vrun_nil, ↓code_region, ↓code_seq, ↓onNormal_normal, load_ptr, vld_one, blk_zero, faddr_ptr, vfap_some, ext_tup, evG_eq, ↓vrun_cons, ↓run1_some, ↓runG_true, ↓run2_none, ↓run2_some, ↓run3_some, ↓runK_eq, at_hp, List.map_nil, List.getElem?_cons_zero, List.getElem?_cons_succ, List.map_cons, List.map_nil, List.nil_append, List.append_nil, Option.map_some, ↓reduceIte, reduceCtorEq, Nat.reduceLT, Nat.reduceBEq, Int.reduceLT, Int.reduceNeg, Int.reduceBEq, Nat.zero_add, true_and, Bool.true_and, beq_self_eq_true, Try.vt32, Try.vfield34x3, dec_t]
      refine vc_new0 (cloneI_v r.bad (by omega)) rfl (cells_nums _ _ _) ?_
      simp (config := { maxSteps := 2000000 }) (implicitDefEqProofs := false) (disch := first | omega | assumption | (simp only []; done) | fail) only [vop_move, vcallee_move, vop_buildSlice, vcallee_buildSlice, vcallee_value, vcal_fn, strip_pv, strip_own, strip_fn, optV_none, ev_tmp, ev_func, put_some, at_mk, fits_some, ↓look_cons, ↓vlook_t, ↓vlook_f, guard_none, allOne_nil, allOne_cons, one_pv, parts_nil, parts_cons, evG_eq, ↓vrun_cons, ↓run1_some, ↓runG_true, ↓run2_none, ↓run2_some, ↓run3_some, ↓runK_eq, at_hp, List.map_nil, dcells, vfill, vbuildSlice, V.mk, V.splice, List.length_cons, List.length_nil, List.map_cons, List.map_nil, List.cons_append, List.nil_append, List.append_nil, List.take_zero, List.drop_succ_cons, List.drop_nil, Option.map_some, ↓reduceIte, Nat.reduceAdd, Nat.reduceLT, Nat.reduceLeDiff, Nat.reduceBEq, Int.reduceLT, Int.reduceNeg, Int.reduceAdd, Int.reduceBEq, Nat.zero_add, Nat.mul_one, true_and, and_self, Bool.true_and, Bool.and_self, beq_self_eq_true, Nat.le_refl, Try.vzero3, Try.velem32, dec_t]
      refine vc_newP [3, 4] [3, 4] hins rfl ⟨⟨by simp, cells_nums _ _ _⟩, ⟨by simp, rfl⟩, trivial⟩ (by decide) rfl rfl rfl (cells_nums _ _ _) ?_
      have hfi := fun n hp => frzC_I (n := n) (hp := hp) hil
      rw [insB] at hfi
      simp (config := { maxSteps := 2000000 }) (implicitDefEqProofs := false) (disch := first | omega | assumption | (simp only []; done) | fail) only [vop_move, vcallee_move, vop_assign, vcallee_assign, vop_load, vcallee_load, vop_store, vcallee_store, vop_unOp, vcallee_unOp, vop_fieldAddr, vcallee_fieldAddr, strip_pv, strip_ptr, strip_own, strip_agg, optV_none, ev_tmp, ev_const, ofConst_int, put_some, put_none, at_mk, fits_some, fits_none, ↓look_cons, ↓vlook_t, ↓vlook_f, guard_none, ↓vrun_nil, ↓code_region, ↓code_seq, ↓code_ret, ↓onNormal_normal, ↓onNormal_ret, frz_tup, frzT_agg, frzT_pv, frz1_pv, frz1_own, allSome_nil, allSome_cons, frzHeap_zero, res_two, vres_tmp, vres_cell, load_ptr, vld_agg, store_ptr, vst_one, vst_agg, blk_zero, blk_succ, set_zero, set_succ, allOne_nil, allOne_cons, one_pv, one_own, faddr_ptr, vfap_some, un_not, evG_eq, ↓vrun_cons, ↓run1_some, ↓runG_true, ↓run2_none, ↓run3_some, ↓runK_eq, ↓code_cond, ↓vtest_bool, ↓vbr_true, ↓vpost_ret, vfin_some, vfin2_some, at_hp, List.map_nil, V.kill, kills, V.splice, List.getElem?_cons_zero, List.getElem?_cons_succ, List.length_cons, List.length_nil, List.map_cons, List.map_nil, List.cons_append, List.nil_append, List.append_nil, List.take_succ_cons, List.take_zero, List.take_nil, List.drop_succ_cons, List.drop_zero, List.drop_nil, List.set_cons_zero, List.set_cons_succ, Option.map_some, ↓reduceIte, reduceCtorEq, Nat.reduceAdd, Nat.reduceLT, Nat.reduceBEq, Int.reduceLT, Int.reduceNeg, Int.reduceAdd, Int.reduceBEq, Nat.zero_add, true_and, and_self, Bool.not_false, Bool.true_and, Bool.and_self, beq_self_eq_true, Nat.le_refl, frzP_own, RetW, DV.wk, DV.wk.go, PV.wk, Try.vt32, Try.vt34, Try.vfield34x3, dec_t, DV.nums, DV.nums.go, hfi]
      rfl
    | some n =>
      have hn := owner_rng r hok a n e
      have hpl := place_v r hok ⟨hs1, hs2⟩ n hn
      have hplo : plo r.places n ≤ r.places.length := lo_le _ _
      simp (config := { maxSteps := 2000000 }) (implicitDefEqProofs := false) (disch := first | omega | assumption | (simp only []; done) | fail) only [vop_move, vcallee_move, vop_assign, vcallee_assign, vop_alloc, vcallee_alloc, vop_load, vcallee_load, vop_store, vcallee_store, vop_fieldAddr, vcallee_fieldAddr, vop_extract, vcallee_extract, vcallee_value, vcal_fn, strip_pv, strip_ptr, strip_agg, strip_tup, strip_fn, optV_none, ev_tmp, ev_func, put_some, put_none, at_mk, fits_some, fits_none, ↓look_cons, ↓vlook_t, ↓vlook_f, guard_none, ↓vrun_nil, ↓code_region, ↓code_seq, ↓onNormal_normal, load_ptr, vld_one, vld_agg, store_ptr, vst_agg, blk_zero, blk_succ, set_zero, set_succ, alloc_eq, val1_some, allOne_nil, allOne_cons, one_pv, faddr_ptr, vfap_some, ext_tup, evG_eq, ↓vrun_cons, ↓run1_some, ↓runG_true, ↓run2_none, ↓run2_some, ↓run3_some, ↓runK_eq, at_hp, List.map_nil, V.splice, List.getElem?_cons_zero, List.getElem?_cons_succ, List.length_cons, List.length_nil, List.map_cons, List.map_nil, List.cons_append, List.nil_append, List.append_nil, List.take_succ_cons, List.take_zero, List.take_nil, List.drop_succ_cons, List.drop_zero, List.drop_nil, Option.map_some, ↓reduceIte, reduceCtorEq, Nat.reduceAdd, Nat.reduceLT, Nat.reduceBEq, Int.reduceLT, Int.reduceNeg, Int.reduceAdd, Int.reduceBEq, Nat.zero_add, true_and, and_self, Bool.true_and, Bool.and_self, beq_self_eq_true, Nat.le_refl, Try.vt32, Try.vt34, Try.vfield34x3, Try.vzero34, dec_t, ownD]
      refine vc_pure hbs rfl ?_
      simp (config := { maxSteps := 2000000 }) (implicitDefEqProofs := false) (disch := first | omega | assumption | (simp only []; done) | fail) only [vop_move, vcallee_move, vop_assign, vcallee_assign, vop_load, vcallee_load, vop_fieldAddr, vcallee_fieldAddr, vop_extract, vcallee_extract, vcallee_value, vcal_fn, strip_pv, strip_ptr, strip_tup, strip_fn, optV_none, ev_tmp, ev_func, put_some, at_mk, fits_some, ↓look_cons, ↓vlook_t, ↓vlook_f, guard_none, ↓vrun_nil, ↓code_region, ↓code_seq, ↓onNormal_normal, load_ptr, vld_one, blk_zero, faddr_ptr, vfap_some, ext_tup, evG_eq, ↓vrun_cons, ↓run1_some, ↓runG_true, ↓run2_none, ↓run2_some, ↓run3_some, ↓runK_eq, at_hp, List.map_nil, List.getElem?_cons_zero, List.getElem?_cons_succ, List.map_cons, List.map_nil, List.nil_append, List.append_nil, Option.map_some, ↓reduceIte, reduceCtorEq, Nat.reduceLT, Nat.reduceBEq, Int.reduceLT, Int.reduceNeg, Int.reduceBEq, Nat.zero_add, true_and, Bool.true_and, beq_self_eq_true, Try.vt32, Try.vfield34x3, dec_t]
      refine vc_new0 (cloneI_v r.bad (by omega)) rfl (cells_nums _ _ _) ?_
      simp (config := { maxSteps := 2000000 }) (implicitDefEqProofs := false) (disch := first | omega | assumption | (simp only []; done) | fail) only [vop_move, vcallee_move, vop_buildSlice, vcallee_buildSlice, vcallee_value, vcal_fn, strip_pv, strip_own, strip_fn, optV_none, ev_tmp, ev_func, put_some, at_mk, fits_some, ↓look_cons, ↓vlook_t, ↓vlook_f, guard_none, allOne_nil, allOne_cons, one_pv, parts_nil, parts_cons, evG_eq, ↓vrun_cons, ↓run1_some, ↓runG_true, ↓run2_none, ↓run2_some, ↓run3_some, ↓runK_eq, at_hp, List.map_nil, dcells, vfill, vbuildSlice, V.mk, V.splice, List.length_cons, List.length_nil, List.map_cons, List.map_nil, List.cons_append, List.nil_append, List.append_nil, List.take_zero, List.drop_succ_cons, List.drop_nil, Option.map_some, ↓reduceIte, Nat.reduceAdd, Nat.reduceLT, Nat.reduceLeDiff, Nat.reduceBEq, Int.reduceLT, Int.reduceNeg, Int.reduceAdd, Int.reduceBEq, Nat.zero_add, Nat.mul_one, true_and, and_self, Bool.true_and, Bool.and_self, beq_self_eq_true, Nat.le_refl, Try.vzero3, Try.velem32, dec_t]
      refine vc_newP [3, 4] [3, 4] hins rfl ⟨⟨by simp, cells_nums _ _ _⟩, ⟨by simp, rfl⟩, trivial⟩ (by decide) rfl rfl rfl (cells_nums _ _ _) ?_
      simp (config := { maxSteps := 2000000 }) (implicitDefEqProofs := false) (disch := first | omega | assumption | (simp only []; done) | fail) only [vop_move, vcallee_move, vop_load, vcallee_load, vop_store, vcallee_store, vop_unOp, vcallee_unOp, vop_fieldAddr, vcallee_fieldAddr, vcallee_value, vcal_fn, strip_pv, strip_ptr, strip_own, strip_agg, strip_fn, optV_none, ev_tmp, ev_func, put_some, put_none, at_mk, fits_some, fits_none, ↓look_cons, ↓vlook_t, ↓vlook_f, guard_none, ↓vrun_nil, ↓code_skip, ↓code_region, ↓code_seq, ↓onNormal_normal, load_ptr, vld_agg, store_ptr, vst_one, blk_zero, blk_succ, set_zero, set_succ, one_own, faddr_ptr, vfap_some, un_not, evG_eq, ↓vrun_cons, ↓run1_some, ↓runG_true, ↓run2_none, ↓run2_some, ↓run3_some, ↓runK_eq, ↓code_cond, ↓vtest_bool, ↓vbr_false, at_hp, List.map_nil, V.kill, kills, List.getElem?_cons_zero, List.getElem?_cons_succ, List.length_cons, List.length_nil, List.map_cons, List.map_nil, List.cons_append, List.nil_append, List.append_nil, List.take_succ_cons, List.take_nil, List.drop_zero, List.set_cons_zero, List.set_cons_succ, Option.map_some, ↓reduceIte, reduceCtorEq, Nat.reduceAdd, Nat.reduceLT, Nat.reduceBEq, Int.reduceLT, Int.reduceNeg, Int.reduceAdd, Int.reduceBEq, Nat.zero_add, true_and, and_self, Bool.not_true, Bool.true_and, Bool.and_self, beq_self_eq_true, Nat.le_refl, Try.vt32, Try.vt34, Try.vfield34x3, dec_t]
      refine vc_pure hfr rfl ?_
      cases ef : r.freeS with
      | nil =>
        simp (config := { maxSteps := 2000000 }) (implicitDefEqProofs := false) (disch := first | omega | assumption | (simp only []; done) | fail) only [vop_move, vcallee_move, vop_assign, vcallee_assign, vop_build, vcallee_build, vop_store, vcallee_store, vop_binOp, vcallee_binOp, vop_builtin, vcallee_builtin, bin2_int, strip_pv, strip_ptr, strip_agg, optV_none, ev_tmp, ev_const, ofConst_int, put_some, put_none, at_mk, fits_some, fits_none, ↓look_cons, ↓vlook_t, ↓vlook_f, guard_none, ↓vrun_nil, ↓code_region, ↓code_seq, ↓code_ret, ↓onNormal_normal, ↓onNormal_ret, frz_tup, frzT_agg, frzT_pv, frz1_pv, allSome_nil, allSome_cons, frzHeap_zero, res_two, vres_tmp, vres_cell, load_ptr, vld_agg, store_ptr, vst_agg, blk_zero, blk_succ, set_zero, set_succ, allOne_nil, allOne_cons, one_pv, bin_int, int_eql, len_sl, vlk_sl, bi_len, parts_nil, evG_eq, ↓vrun_cons, ↓run1_some, ↓runG_true, ↓run2_none, ↓run3_some, ↓runK_eq, ↓code_cond, ↓vtest_bool, ↓vbr_true, ↓vpost_ret, vfin_some, vfin2_some, at_hp, List.map_nil, vbuild, vfill, V.splice, List.length_cons, List.length_nil, List.map_cons, List.map_nil, List.nil_append, List.append_nil, List.take_succ_cons, List.take_zero, List.take_nil, List.drop_succ_cons, List.drop_zero, List.drop_nil, Option.map_some, ↓reduceIte, Nat.reduceAdd, Nat.reduceLT, Nat.reduceBEq, Int.reduceLT, Int.reduceAdd, Int.reduceBEq, Nat.zero_add, true_and, and_self, Bool.true_and, Bool.and_self, beq_self_eq_true, Nat.le_refl, fz_len, RetW, DV.wk, DV.wk.go, PV.wk, Try.vkind32, Try.vt34, Try.vplaces34, Try.vzero34, dec_t, int_beq_t, DV.nums, DV.nums.go]
        rfl
      | cons f fs =>
        have hf0 : (fz encI (f :: fs))[0]? = some [.lit (.int .i64 f)] := rfl
        simp (config := { maxSteps := 2000000 }) (implicitDefEqProofs := false) (disch := first | omega | assumption | (simp only []; done) | fail) only [vop_move, vcallee_move, vop_assign, vcallee_assign, vop_load, vcallee_load, vop_binOp, vcallee_binOp, vop_builtin, vcallee_builtin, vcallee_value, vcal_fn, bin2_int, strip_pv, strip_ptr, strip_agg, strip_fn, optV_none, ev_tmp, ev_const, ev_func, ofConst_int, put_some, at_mk, fits_some, ↓look_cons, ↓vlook_t, ↓vlook_f, guard_none, ↓vrun_nil, ↓code_skip, ↓code_region, ↓code_seq, ↓onNormal_normal, load_ptr, vld_agg, blk_zero, bin_int, int_eql, len_sl, vlk_sl, bi_len, evG_eq, ↓vrun_cons, ↓run1_some, ↓runG_true, ↓run2_none, ↓run2_some, ↓run3_some, ↓runK_eq, ↓code_cond, ↓vtest_bool, ↓vbr_false, at_hp, List.map_nil, List.length_cons, List.length_nil, List.map_cons, List.map_nil, List.nil_append, List.append_nil, List.take_succ_cons, List.take_nil, List.drop_zero, Option.map_some, ↓reduceIte, Nat.reduceAdd, Nat.reduceLT, Nat.reduceBEq, Int.reduceLT, Int.reduceAdd, Int.reduceBEq, Nat.zero_add, true_and, Bool.true_and, beq_self_eq_true, Nat.le_refl, fz_len, Try.vkind32, Try.vt34, dec_t, int_beq_f]
        refine vc_pure hpl rfl ?_
        simp (config := { maxSteps := 2000000 }) (implicitDefEqProofs := false) (disch := first | omega | assumption | (simp only []; done) | fail) only [vop_move, vcallee_move, vop_assign, vcallee_assign, vop_load, vcallee_load, vop_fieldAddr, vcallee_fieldAddr, vop_extract, vcallee_extract, vcallee_value, vcal_fn, strip_pv, strip_ptr, strip_tup, strip_fn, optV_none, ev_tmp, ev_func, put_some, at_mk, fits_some, ↓look_cons, ↓vlook_t, ↓vlook_f, guard_none, ↓vrun_nil, ↓code_region, ↓code_seq, ↓onNormal_normal, load_ptr, vld_one, blk_zero, faddr_ptr, vfap_some, ext_tup, evG_eq, ↓vrun_cons, ↓run1_some, ↓runG_true, ↓run2_none, ↓run2_some, ↓run3_some, ↓runK_eq, at_hp, List.map_nil, List.getElem?_cons_zero, List.getElem?_cons_succ, List.map_cons, List.map_nil, List.nil_append, List.append_nil, Option.map_some, ↓reduceIte, reduceCtorEq, Nat.reduceLT, Nat.reduceBEq, Int.reduceLT, Int.reduceBEq, Nat.zero_add, true_and, Bool.true_and, beq_self_eq_true, Try.vt31, Try.vfield34x2, dec_t]
        refine vc_new0 (cloneP_v r.places (by omega)) rfl (cells_nums _ _ _) ?_
        by_cases hp : pfound r.places n = true
        · have hlt : plo r.places n < r.places.length := by
            unfold pfound at hp
            cases hx : r.places[plo r.places n]? with
            | none => rw [hx] at hp; simp at hp
            | some p => exact (List.getElem?_eq_some_iff.1 hx).1
          have hset := cells_setPx r.places (plo r.places n) ⟨n, f⟩ hlt
          dsimp only at hset
          have hsl : (r.places.set (plo r.places n) ⟨n, f⟩).length = r.places.length := List.length_set
          have hfp := fun n' hp' => frzC_P (n := n') (hp := hp') hsl
          have hfi := fun n hp => frzC_I (n := n) (hp := hp) hil
          rw [insB] at hfi
          simp (config := { maxSteps := 2000000 }) (implicitDefEqProofs := false) (disch := first | omega | assumption | (simp only []; done) | fail) only [vop_move, vcallee_move, vop_store, vcallee_store, vop_unOp, vcallee_unOp, vop_fieldAddr, vcallee_fieldAddr, strip_pv, strip_ptr, strip_own, optV_none, ev_tmp, put_some, put_none, at_mk, fits_some, fits_none, ↓look_cons, ↓vlook_t, ↓vlook_f, guard_none, ↓vrun_nil, ↓code_skip, ↓code_region, ↓code_draw, ↓code_seq, ↓onNormal_normal, store_ptr, vst_one, blk_zero, blk_succ, set_zero, set_succ, one_own, faddr_ptr, vfap_some, un_not, evG_eq, ↓vrun_cons, ↓run1_some, ↓runG_true, ↓run2_none, ↓run3_some, ↓runK_eq, ↓code_cond, ↓vtest_bool, ↓vbr_false, at_hp, List.length_cons, List.length_nil, List.cons_append, List.nil_append, List.set_cons_zero, List.set_cons_succ, Option.map_some, ↓reduceIte, reduceCtorEq, Nat.reduceAdd, Nat.reduceLT, Nat.reduceBEq, Int.reduceLT, Int.reduceAdd, Int.reduceBEq, Nat.zero_add, true_and, and_self, Bool.not_true, Bool.true_and, Bool.and_self, beq_self_eq_true, Try.vt31, Try.vfield34x2, dec_t, hp]
          refine vdraw (by kernel_rfl) (by kernel_rfl) ?_
          have hb2 : plo r.places n * 2 + 2 ≤ r.places.length * 2 := by omega
          rw [setP, if_pos hp]
          simp (config := { maxSteps := 2000000 }) (implicitDefEqProofs := false) (disch := first | omega | assumption | (simp only [List.length_cons, List.length_nil, Nat.zero_add]; done) | fail) only [vop_move, vcallee_move, okKind_move, foot_move, vop_assign, vcallee_assign, vop_build, vcallee_build, okKind_build, foot_build, vop_load, vcallee_load, okKind_load, vop_store, vcallee_store, okKind_store, vop_fieldAddr, vcallee_fieldAddr, okKind_fieldAddr, foot_fieldAddr, vop_indexAddr, vcallee_indexAddr, okKind_indexAddr, foot_indexAddr, foot_load, foot_store, ptrNo_ptr, ptrNo_ip, strip_pv, strip_ptr, strip_own, strip_ip, strip_agg, optV_none, ev_tmp, ev_const, ofConst_int, put_some, put_none, at_mk, fits_some, fits_none, ↓look_cons, ↓vlook_t, ↓vlook_f, guard_none, ↓vrun_nil, ↓vdr_nil, ↓code_region, ↓code_seq, ↓code_ret, ↓onNormal_normal, frz_tup, frzT_agg, frzT_pv, frz1_pv, frz1_own, allSome_nil, allSome_cons, frzHeap_zero, res_two, vres_tmp, vres_cell, load_ptr, load_ip, vld_one, vld_agg, vldp_one, store_ptr, vst_agg, blk_zero, blk_succ, set_zero, set_succ, allOne_nil, allOne_cons, one_pv, one_own, faddr_ptr, vfap_some, iaddr_sl, vias_some, iaddr_own, viao_some, parts_nil, parts_cons, okc_nil, okc_none, okc_other, okc_one, evG_eq, ↓vrun_cons, ↓run1_some, ↓runG_true, ↓run2_none, ↓run3_some, ↓vdr_cons, ↓dr1_some, ↓drG_true, ↓dr2_none, ↓dr3_some, ↓vpost_ret, vfin_some, vfin2_some, at_hp, List.map_nil, dcells, vbuild, vfill, V.splice, List.getElem?_cons_zero, List.getElem?_cons_succ, List.length_cons, List.length_nil, List.map_cons, List.map_nil, List.cons_append, List.nil_append, List.append_nil, List.take_succ_cons, List.take_zero, List.take_nil, List.drop_succ_cons, List.drop_zero, List.drop_nil, List.any_nil, List.any_cons, Option.map_some, ↓reduceIte, reduceCtorEq, Nat.reduceAdd, Nat.reduceLT, Nat.reduceLeDiff, Nat.reduceBEq, Int.reduceToNat, Int.reduceLT, Int.reduceAdd, Int.reduceBEq, Int.toNat_natCast, Nat.zero_add, true_and, and_true, and_self, and_false, true_or, or_true, or_false, false_or, or_self, Bool.not_false, Bool.or_true, Bool.true_or, Bool.or_false, Bool.false_or, Bool.and_true, Bool.true_and, Bool.and_false, Bool.or_self, Bool.and_self, beq_self_eq_true, Nat.le_refl, frzP_own, RetW, DV.wk, DV.wk.go, PV.wk, Try.vt3, Try.vt31, Try.velem31, Try.velem32, Try.vt34, Try.vfield34x2, Try.vt61, Try.vplaces61, Try.vzero61, dec_t, DV.nums, DV.nums.go, hf0, cellsP_len, hb2, hset, hfp, hfi]
          rfl
        · have hp' : pfound r.places n = false := by simpa using hp
          have hcp : (r.places.take (plo r.places n) ++ (⟨0, 0⟩ : Pl) :: r.places.drop (plo r.places n)).length = r.places.length + 1 := by simp; omega
          have hlt : plo r.places n < (r.places.take (plo r.places n) ++ (⟨0, 0⟩ : Pl) :: r.places.drop (plo r.places n)).length := by omega
          have hset := cells_setPx _ _ ⟨n, f⟩ hlt
          have hst : (r.places.take (plo r.places n) ++ (⟨0, 0⟩ : Pl) :: r.places.drop (plo r.places n)).set (plo r.places n) ⟨n, f⟩ = r.places.take (plo r.places n) ++ (⟨n, f⟩ : Pl) :: r.places.drop (plo r.places n) := by
            rw [List.set_append_right _ _ (by rw [List.length_take]; omega)]
            simp [Nat.min_eq_left hplo]
          rw [hst] at hset
          dsimp only at hset
          simp (config := { maxSteps := 2000000 }) (implicitDefEqProofs := false) (disch := first | omega | assumption | (simp only []; done) | fail) only [vop_move, vcallee_move, vop_build, vcallee_build, vop_buildSlice, vcallee_buildSlice, vop_load, vcallee_load, vop_store, vcallee_store, vop_unOp, vcallee_unOp, vop_fieldAddr, vcallee_fieldAddr, vcallee_value, vcal_fn, strip_pv, strip_ptr, strip_own, strip_agg, strip_fn, optV_none, ev_tmp, ev_func, put_some, put_none, at_mk, fits_some, fits_none, ↓look_cons, ↓vlook_t, ↓vlook_f, guard_none, ↓vrun_nil, ↓code_region, ↓code_seq, ↓onNormal_normal, load_ptr, vld_one, store_ptr, vst_one, blk_zero, blk_succ, set_zero, set_succ, allOne_nil, allOne_cons, one_pv, one_own, faddr_ptr, vfap_some, un_not, parts_nil, parts_cons, evG_eq, ↓vrun_cons, ↓run1_some, ↓runG_true, ↓run2_none, ↓run2_some, ↓run3_some, ↓runK_eq, ↓code_cond, ↓vtest_bool, ↓vbr_true, at_hp, List.map_nil, dcells, vbuild, vfill, vbuildSlice, V.mk, V.splice, List.getElem?_cons_zero, List.getElem?_cons_succ, List.length_cons, List.length_nil, List.map_cons, List.map_nil, List.cons_append, List.nil_append, List.append_nil, List.take_zero, List.drop_succ_cons, List.drop_nil, List.set_cons_zero, List.set_cons_succ, Option.map_some, ↓reduceIte, reduceCtorEq, Nat.reduceAdd, Nat.reduceLT, Nat.reduceLeDiff, Nat.reduceBEq, Int.reduceLT, Int.reduceAdd, Int.reduceBEq, Nat.zero_add, Nat.zero_mul, Nat.one_mul, true_and, and_self, Bool.not_false, Bool.true_and, Bool.and_self, beq_self_eq_true, Nat.le_refl, Try.vt31, Try.velem31, Try.vfield34x2, Try.vplaces61, Try.vzero61, dec_t, hp']
          refine vc_newP [6, 7] [6, 7] (insertP_v r.places ⟨0, 0⟩ (plo r.places n) hplo (by omega)) rfl ⟨⟨by simp, cells_nums _ _ _⟩, ⟨by simp, rfl⟩, trivial⟩ (by decide) rfl rfl rfl (cells_nums _ _ _) ?_
          simp (config := { maxSteps := 2000000 }) (implicitDefEqProofs := false) (disch := first | omega | assumption | (simp only []; done) | fail) only [vop_store, vcallee_store, vop_fieldAddr, vcallee_fieldAddr, strip_ptr, strip_own, optV_none, ev_tmp, put_some, put_none, at_mk, fits_some, fits_none, ↓look_cons, ↓vlook_t, ↓vlook_f, guard_none, ↓vrun_nil, ↓code_draw, ↓code_seq, ↓onNormal_normal, store_ptr, vst_one, blk_zero, blk_succ, set_zero, set_succ, one_own, faddr_ptr, vfap_some, evG_eq, ↓vrun_cons, ↓run1_some, ↓runG_true, ↓run2_none, ↓run3_some, ↓runK_eq, at_hp, V.kill, kills, List.getElem?_cons_zero, List.getElem?_cons_succ, List.length_cons, List.length_nil, List.cons_append, List.nil_append, List.set_cons_zero, List.set_cons_succ, Option.map_some, ↓reduceIte, reduceCtorEq, Nat.reduceAdd, Nat.reduceLT, Nat.reduceBEq, Int.reduceLT, Int.reduceAdd, Int.reduceBEq, Nat.zero_add, true_and, and_self, Bool.true_and, Bool.and_self, beq_self_eq_true, Try.vt31, Try.vfield34x2, dec_t]
          refine vdraw (by kernel_rfl) (by kernel_rfl) ?_
          have hb2 : plo r.places n * 2 + 2 ≤ (r.places.length + 1) * 2 := by omega
          have hsl : (r.places.take (plo r.places n) ++ (⟨n, f⟩ : Pl) :: r.places.drop (plo r.places n)).length = r.places.length + 1 := by simp; omega
          have hfp := fun n' hp' => frzC_P (n := n') (hp := hp') hsl
          have hfi := fun n hp => frzC_I (n := n) (hp := hp) hil
          rw [insB] at hfi
          rw [setP, if_neg hp]
          simp (config := { maxSteps := 2000000 }) (implicitDefEqProofs := false) (disch := first | omega | assumption | (simp only [List.length_cons, List.length_nil, Nat.zero_add]; done) | fail) only [vop_move, vcallee_move, okKind_move, foot_move, vop_assign, vcallee_assign, vop_build, vcallee_build, okKind_build, foot_build, vop_load, vcallee_load, okKind_load, vop_store, vcallee_store, okKind_store, vop_fieldAddr, vcallee_fieldAddr, okKind_fieldAddr, foot_fieldAddr, vop_indexAddr, vcallee_indexAddr, okKind_indexAddr, foot_indexAddr, foot_load, foot_store, ptrNo_ptr, ptrNo_ip, strip_pv, strip_ptr, strip_own, strip_ip, strip_agg, optV_none, ev_tmp, ev_const, ofConst_int, put_some, put_none, at_mk, fits_some, fits_none, ↓look_cons, ↓vlook_t, ↓vlook_f, guard_none, ↓vrun_nil, ↓vdr_nil, ↓code_region, ↓code_seq, ↓code_ret, ↓onNormal_normal, frz_tup, frzT_agg, frzT_pv, frz1_pv, frz1_own, allSome_nil, allSome_cons, frzHeap_zero, res_two, vres_tmp, vres_cell, load_ptr, load_ip, vld_one, vld_agg, vldp_one, store_ptr, vst_agg, blk_zero, blk_succ, set_zero, set_succ, allOne_nil, allOne_cons, one_pv, one_own, faddr_ptr, vfap_some, iaddr_sl, vias_some, iaddr_own, viao_some, parts_nil, parts_cons, okc_nil, okc_none, okc_other, okc_one, evG_eq, ↓vrun_cons, ↓run1_some, ↓runG_true, ↓run2_none, ↓run3_some, ↓vdr_cons, ↓dr1_some, ↓drG_true, ↓dr2_none, ↓dr3_some, ↓vpost_ret, vfin_some, vfin2_some, at_hp, List.map_nil, dcells, vbuild, vfill, V.splice, List.getElem?_cons_zero, List.getElem?_cons_succ, List.length_cons, List.length_nil, List.map_cons, List.map_nil, List.cons_append, List.nil_append, List.append_nil, List.take_succ_cons, List.take_zero, List.take_nil, List.drop_succ_cons, List.drop_zero, List.drop_nil, List.any_nil, List.any_cons, Option.map_some, ↓reduceIte, reduceCtorEq, Nat.reduceAdd, Nat.reduceLT, Nat.reduceLeDiff, Nat.reduceBEq, Int.reduceToNat, Int.reduceLT, Int.reduceAdd, Int.reduceBEq, Int.toNat_natCast, Nat.zero_add, true_and, and_true, and_self, and_false, true_or, or_true, or_false, false_or, or_self, Bool.not_false, Bool.or_true, Bool.true_or, Bool.or_false, Bool.false_or, Bool.and_true, Bool.true_and, Bool.and_false, Bool.or_self, Bool.and_self, beq_self_eq_true, Nat.le_refl, frzP_own, RetW, DV.wk, DV.wk.go, PV.wk, Try.vt3, Try.vt31, Try.velem31, Try.velem32, Try.vt34, Try.vfield34x2, Try.vt61, Try.vplaces61, Try.vzero61, dec_t, DV.nums, DV.nums.go, hf0, cellsP_len, hcp, hb2, hset, hfp, hfi]
          rfl
  · have ho' : r.okB = false := by simpa using ho
    rw [if_neg ho]
    rw [ho'] at hv
    simp (config := { maxSteps := 2000000 }) (implicitDefEqProofs := false) (disch := first | omega | assumption | (simp only []; done) | fail) only [vop_assign, vcallee_assign, vop_alloc, vcallee_alloc, vop_box, vcallee_box, vop_load, vcallee_load, vcallee_value, vcal_fn, strip_pv, strip_ptr, strip_agg, strip_fn, optV_none, ev_tmp, ev_const, ev_func, ofConst_int, put_some, at_mk, fits_some, ↓look_cons, ↓vlook_t, ↓vlook_f, guard_none, ↓vrun_nil, ↓code_region, ↓code_seq, ↓code_block, ↓onNormal_normal, load_ptr, vld_agg, blk_zero, box_eq, alloc_eq, val1_some, allOne_nil, allOne_cons, one_pv, enum_nil, enum_cons, evG_eq, ↓vrun_cons, ↓run1_some, ↓runG_true, ↓run2_none, ↓run2_some, ↓run3_some, at_hp, List.map_nil, dcells, List.toList_toArray, List.length_cons, List.length_nil, List.map_cons, List.map_nil, List.cons_append, List.nil_append, List.append_nil, List.take_succ_cons, List.take_nil, List.drop_zero, Option.map_some, ↓reduceIte, Nat.reduceAdd, Nat.reduceLT, Nat.reduceBEq, Int.reduceLT, Int.reduceNeg, Int.reduceAdd, Int.reduceBEq, Nat.zero_add, true_and, and_self, Bool.true_and, Bool.and_self, beq_self_eq_true, Nat.le_refl, Try.vt34, Try.vzero34, dec_t, Try.f18, Rm.d]
    refine vc_pure hv rfl ?_
    simp (config := { maxSteps := 2000000 }) (implicitDefEqProofs := false) (disch := first | omega | assumption | (simp only []; done) | fail) only [vop_assign, vcallee_assign, vop_build, vcallee_build, vop_store, vcallee_store, vop_unOp, vcallee_unOp, strip_pv, strip_ptr, strip_agg, optV_none, ev_tmp, ev_const, ofConst_int, put_some, put_none, at_mk, fits_some, fits_none, ↓look_cons, ↓vlook_t, ↓vlook_f, guard_none, ↓vrun_nil, ↓code_region, ↓code_seq, ↓code_ret, ↓onNormal_normal, ↓onNormal_ret, ↓onBlock_ret, frz_tup, frzT_agg, frzT_pv, frz1_pv, allSome_nil, allSome_cons, frzHeap_zero, res_two, vres_tmp, vres_cell, load_ptr, vld_agg, store_ptr, vst_agg, blk_zero, blk_succ, set_zero, set_succ, allOne_nil, allOne_cons, one_pv, un_not, parts_nil, evG_eq, ↓vrun_cons, ↓run1_some, ↓runG_true, ↓run2_none, ↓run3_some, ↓runK_eq, ↓code_cond, ↓vtest_bool, ↓vbr_true, ↓vpost_ret, vfin_some, vfin2_some, at_hp, List.map_nil, vbuild, vfill, V.splice, List.length_cons, List.length_nil, List.map_cons, List.map_nil, List.nil_append, List.append_nil, List.take_succ_cons, List.take_zero, List.take_nil, List.drop_succ_cons, List.drop_zero, List.drop_nil, Option.map_some, ↓reduceIte, Nat.reduceAdd, Nat.reduceLT, Nat.reduceBEq, Int.reduceLT, Int.reduceNeg, Int.reduceAdd, Int.reduceBEq, Nat.zero_add, true_and, and_self, Bool.not_false, Bool.true_and, Bool.and_self, beq_self_eq_true, Nat.le_refl, RetW, DV.wk, DV.wk.go, PV.wk, Try.vt34, Try.vplaces34, Try.vzero34, dec_t, DV.nums, DV.nums.go]
    rfl
end Go.Proofs.Ytnilcppifcekmaa
namespace Go.Proofs.Ytnilcppifcekmaa
open Go.V Go
theorem awake_v : VCalls Try.prog 4 [] [] (Ret (.bool true)) := by
  refine dd Try.func4 ?_
  have h1 := new_v 4 1
  rw [if_pos (by kernel_rfl : (⟨4, 1, [], []⟩ : Rm).okB = true)] at h1
  have h2 := mark_v ⟨4, 1, [], []⟩ ⟨by simp, by simp⟩ 2
  rw [(by kernel_rfl : (⟨4, 1, [], []⟩ : Rm).markS 2 = (⟨4, 1, [⟨2, 4⟩], [2]⟩, 2, 0))] at h2
  have h3 := where_v ⟨4, 1, [⟨2, 4⟩], [2]⟩ ⟨by simp, by simp⟩ 2
  rw [if_pos (by kernel_rfl : (⟨4, 1, [⟨2, 4⟩], [2]⟩ : Rm).okB = true), if_neg (by simp), (by kernel_rfl : (⟨4, 1, [⟨2, 4⟩], [2]⟩ : Rm).whereS 2 = 4)] at h3
  have h4 := mark_v ⟨4, 1, [⟨2, 4⟩], [2]⟩ ⟨by simp, by simp⟩ 3
  rw [(by kernel_rfl : (⟨4, 1, [⟨2, 4⟩], [2]⟩ : Rm).markS 3 = (Rm0, 0, 47))] at h4
  dsimp only at h2 h4
  simp (config := { maxSteps := 2000000 }) (implicitDefEqProofs := false) (disch := first | omega | assumption | (simp only []; done) | fail) only [vop_assign, vcallee_assign, vcallee_value, vcal_fn, strip_pv, strip_fn, optV_none, ev_const, ev_func, ofConst_int, ofConst_bool, put_some, at_mk, fits_some, guard_none, ↓vrun_nil, ↓code_region, ↓code_seq, ↓onNormal_normal, enum_nil, evG_eq, ↓vrun_cons, ↓run1_some, ↓runG_true, ↓run2_none, ↓run2_some, ↓run3_some, List.map_nil, List.toList_toArray, List.length_nil, List.map_cons, List.map_nil, List.nil_append, List.append_nil, Nat.reduceLT, Int.reduceLT, true_and, Bool.true_and, dec_t, Try.f4]
  refine vc_pure h1 rfl ?_
  simp (config := { maxSteps := 2000000 }) (implicitDefEqProofs := false) (disch := first | omega | assumption | (simp only []; done) | fail) only [vop_move, vcallee_move, vop_assign, vcallee_assign, vop_alloc, vcallee_alloc, vop_load, vcallee_load, vop_store, vcallee_store, vop_extract, vcallee_extract, vcallee_value, vcal_fn, strip_pv, strip_ptr, strip_agg, strip_tup, strip_fn, optV_none, ev_tmp, ev_const, ev_func, ofConst_int, put_some, put_none, at_mk, fits_some, fits_none, ↓look_cons, ↓vlook_t, ↓vlook_f, guard_none, ↓vrun_nil, ↓code_region, ↓code_seq, ↓onNormal_normal, load_ptr, vld_agg, store_ptr, vst_agg, blk_zero, set_zero, alloc_eq, val1_some, allOne_nil, allOne_cons, one_pv, ext_tup, evG_eq, ↓vrun_cons, ↓run1_some, ↓runG_true, ↓run2_none, ↓run2_some, ↓run3_some, ↓runK_eq, at_hp, List.map_nil, V.splice, List.getElem?_cons_zero, List.getElem?_cons_succ, List.length_cons, List.length_nil, List.map_cons, List.map_nil, List.nil_append, List.append_nil, List.take_succ_cons, List.take_zero, List.take_nil, List.drop_succ_cons, List.drop_zero, List.drop_nil, Option.map_some, ↓reduceIte, Nat.reduceAdd, Nat.reduceLT, Nat.reduceBEq, Int.reduceLT, Int.reduceAdd, Int.reduceBEq, Nat.zero_add, true_and, and_self, Bool.true_and, Bool.and_self, beq_self_eq_true, Nat.le_refl, Try.vt34, Try.vzero34, dec_t, Rm.d]
  refine vc_pure h2 rfl ?_
  simp (config := { maxSteps := 2000000 }) (implicitDefEqProofs := false) (disch := first | omega | assumption | (simp only []; done) | fail) only [vop_move, vcallee_move, vop_assign, vcallee_assign, vop_load, vcallee_load, vop_store, vcallee_store, vop_extract, vcallee_extract, vcallee_value, vcal_fn, strip_pv, strip_ptr, strip_agg, strip_tup, strip_fn, optV_none, ev_tmp, ev_const, ev_func, ofConst_int, put_some, put_none, at_mk, fits_some, fits_none, ↓look_cons, ↓vlook_t, ↓vlook_f, guard_none, ↓vrun_nil, ↓code_region, ↓code_seq, ↓onNormal_normal, load_ptr, vld_agg, store_ptr, vst_agg, blk_zero, set_zero, allOne_nil, allOne_cons, one_pv, ext_tup, evG_eq, ↓vrun_cons, ↓run1_some, ↓runG_true, ↓run2_none, ↓run2_some, ↓run3_some, ↓runK_eq, at_hp, List.map_nil, V.splice, List.getElem?_cons_zero, List.getElem?_cons_succ, List.length_cons, List.length_nil, List.map_cons, List.map_nil, List.nil_append, List.append_nil, List.take_succ_cons, List.take_zero, List.take_nil, List.drop_succ_cons, List.drop_zero, List.drop_nil, Option.map_some, ↓reduceIte, Nat.reduceAdd, Nat.reduceLT, Nat.reduceBEq, Int.reduceLT, Int.reduceAdd, Int.reduceBEq, Nat.zero_add, true_and, and_self, Bool.true_and, Bool.and_self, beq_self_eq_true, Nat.le_refl, Try.vt34, dec_t, Rm.d, remD]
  refine vc_pure h3 rfl ?_
  simp (config := { maxSteps := 2000000 }) (implicitDefEqProofs := false) (disch := first | omega | assumption | (simp only []; done) | fail) only [vop_move, vcallee_move, vop_assign, vcallee_assign, vop_load, vcallee_load, vop_extract, vcallee_extract, vcallee_value, vcal_fn, strip_pv, strip_ptr, strip_agg, strip_tup, strip_fn, optV_none, ev_tmp, ev_const, ev_func, ofConst_int, put_some, at_mk, fits_some, ↓look_cons, ↓vlook_t, ↓vlook_f, guard_none, ↓vrun_nil, ↓code_region, ↓code_seq, ↓onNormal_normal, load_ptr, vld_agg, blk_zero, ext_tup, evG_eq, ↓vrun_cons, ↓run1_some, ↓runG_true, ↓run2_none, ↓run2_some, ↓run3_some, ↓runK_eq, at_hp, List.map_nil, List.getElem?_cons_zero, List.getElem?_cons_succ, List.length_cons, List.length_nil, List.map_cons, List.map_nil, List.nil_append, List.append_nil, List.take_succ_cons, List.take_nil, List.drop_zero, Option.map_some, ↓reduceIte, Nat.reduceAdd, Nat.reduceLT, Nat.reduceBEq, Int.reduceLT, Int.reduceAdd, Int.reduceBEq, Nat.zero_add, true_and, Bool.true_and, beq_self_eq_true, Nat.le_refl, Try.vt34, dec_t]
  refine vc_pure h4 rfl ?_
  simp (config := { maxSteps := 2000000 }) (implicitDefEqProofs := false) (disch := first | omega | assumption | (simp only []; done) | fail) only [vop_move, vcallee_move, vop_assign, vcallee_assign, vop_pick, vcallee_pick, vop_alloc, vcallee_alloc, vop_store, vcallee_store, vop_binOp, vcallee_binOp, vop_extract, vcallee_extract, bin2_int, vpick_bool, strip_pv, strip_ptr, strip_agg, strip_tup, strip_opt, vstr_true, optV_none, optV_some, pickV_bool, ev_tmp, ev_const, ofConst_int, ofConst_bool, put_some, put_none, at_mk, fits_some, fits_none, ↓look_cons, ↓vlook_t, ↓vlook_f, guard_none, guard_some, vgof_bool, ↓vrun_nil, ↓code_region, ↓code_seq, ↓code_ret, ↓onNormal_normal, frz_pv, frzHeap_zero, res_one, vres_tmp, store_ptr, vst_agg, blk_zero, blk_succ, set_zero, set_succ, alloc_eq, val1_some, allOne_nil, allOne_cons, one_pv, bin_int, int_eql, ext_tup, evG_eq, ↓vrun_cons, ↓run1_some, ↓runG_true, ↓run2_none, ↓run3_some, ↓runK_eq, ↓vpost_ret, vfin_some, vfin2_some, at_hp, V.splice, List.getElem?_cons_zero, List.getElem?_cons_succ, List.length_cons, List.length_nil, List.cons_append, List.nil_append, List.append_nil, List.take_zero, List.drop_succ_cons, List.drop_nil, Option.map_some, Option.bind_some, ↓reduceIte, Nat.reduceAdd, Nat.reduceLT, Nat.reduceBEq, Int.reduceLT, Int.reduceAdd, Int.reduceBEq, Nat.zero_add, and_self, or_true, Bool.not_true, Bool.or_true, Bool.and_self, cond_true, beq_self_eq_true, Nat.le_refl, Try.vt34, Try.vzero34, dec_t, Ret, DV.nums, Rm.d, remD, Rm0]
end Go.Proofs.Ytnilcppifcekmaa
namespace Go.Proofs.Ytnilcppifcekmaa
open Go.V Go
deriving instance DecidableEq for Pl
theorem fzP_at (l : List Pl) (i : Nat) (h : i < l.length) : (fz encP l)[i]? = some [.lit (.int .i64 l[i].pg), .lit (.int .i64 l[i].ad)] := fz_at encP l i h
theorem allEq_w (a b c d : Int) : allEq [.pv (.lit (.int .i64 a)), .pv (.lit (.int .i64 b))] [.pv (.lit (.int .i64 c)), .pv (.lit (.int .i64 d))] [(0, 1), (1, 1)] = some (decide (a = c) && decide (b = d)) := by
  simp [allEq, leafEq]
  rfl
deriving instance DecidableEq for Rm
theorem same_v (a b : Rm) (ha : a.sm) (hb : b.sm) : VCalls Try.prog 15 [.agg a.d, .agg b.d] [] (Ret (.bool (decide (a = b)))) := by
  refine dd Try.func15 ?_
  obtain ⟨p, s, l, m⟩ := a
  obtain ⟨p', s', l', m'⟩ := b
  obtain ⟨h1, h2⟩ := ha
  obtain ⟨h3, h4⟩ := hb
  dsimp only at h1 h2 h3 h4
  have hno : ∀ {x : Bool}, (¬ ((⟨p, s, l, m⟩ : Rm) = ⟨p', s', l', m'⟩) → x = false → x = decide ((⟨p, s, l, m⟩ : Rm) = ⟨p', s', l', m'⟩)) := fun h e => by rw [decide_eq_false h]; exact e
  by_cases e1 : p = p'
  · subst e1
    by_cases e2 : s = s'
    · subst e2
      by_cases e3 : l.length = l'.length
      · by_cases e4 : m.length = m'.length
        · simp (config := { maxSteps := 2000000 }) (implicitDefEqProofs := false) (disch := first | omega | assumption | (simp only []; done) | fail) only [vop_move, vcallee_move, vop_assign, vcallee_assign, vop_pick, vcallee_pick, vop_box, vcallee_box, vop_load, vcallee_load, vop_binOp, vcallee_binOp, vop_fieldAddr, vcallee_fieldAddr, vop_builtin, vcallee_builtin, bin2_tmp, vpick_bool, strip_pv, strip_ptr, strip_agg, strip_opt, vstr_true, optV_none, optV_some, pickV_bool, ev_tmp, ev_const, ofConst_int, ofConst_bool, put_some, at_mk, fits_some, ↓look_cons, ↓vlook_t, ↓vlook_f, guard_none, guard_some, vgof_bool, ↓vrun_nil, ↓code_skip, ↓code_region, ↓code_seq, ↓code_block, ↓code_loop, ↓onNormal_normal, load_ptr, vld_one, blk_zero, blk_succ, box_eq, allOne_nil, allOne_cons, one_pv, faddr_ptr, vfap_some, bin_int, int_neq, len_sl, vlk_sl, bi_len, enum_nil, enum_cons, evG_eq, ↓vrun_cons, ↓run1_some, ↓runG_true, ↓run2_none, ↓run3_some, ↓code_cond, ↓vtest_bool, ↓vbr_false, at_hp, List.map_nil, dcells, List.toList_toArray, List.getElem?_cons_zero, List.getElem?_cons_succ, List.length_cons, List.length_nil, List.map_cons, List.map_nil, List.cons_append, List.nil_append, Option.map_some, Option.bind_some, ↓reduceIte, reduceCtorEq, Nat.reduceAdd, Nat.reduceLT, Nat.reduceBEq, Int.reduceLT, Int.reduceAdd, Int.reduceBEq, Nat.zero_add, Nat.add_zero, true_and, and_self, or_true, Bool.not_true, Bool.not_false, Bool.or_true, Bool.true_and, Bool.and_self, cond_false, beq_self_eq_true, fz_len, Try.vt3, Try.vt31, Try.vkind31, Try.vt32, Try.vkind32, Try.vfield34x0, Try.vfield34x1, Try.vfield34x2, Try.vfield34x3, dec_t, int_bne_f, Try.f15, Rm.d, e3, e4]
          refine vloopW (fun s0 : OkayQ l'.length (fun i => decide (l.getD i ⟨0, 0⟩ = l'.getD i ⟨0, 0⟩)) => ⟨73, 0, [(5, .int .i64 s0.i), (4, .bool false), (3, .ptr 1 0), (2, .ptr 0 0)], [⟨34, true, Rm.d ⟨p, s, l, m⟩⟩, ⟨34, true, Rm.d ⟨p, s, l', m'⟩⟩]⟩) (fun s0 => l'.length - s0.i) (OkayQ.start _ _) (.inl (by refine ⟨rfl, rfl, by simp, ?_, ?_, .inr ⟨?_, ?_⟩⟩ <;> (repeat' apply And.intro) <;> first | rfl | trivial | (intro _; first | rfl | apply cells_refs))) ?_
          rintro s0
          simp (config := { maxSteps := 2000000 }) (implicitDefEqProofs := false) (disch := first | omega | assumption | (simp only []; done) | fail) only [vop_move, vcallee_move, vop_load, vcallee_load, vop_binOp, vcallee_binOp, vop_fieldAddr, vcallee_fieldAddr, vop_builtin, vcallee_builtin, bin2_tmp, strip_pv, strip_ptr, optV_none, ev_tmp, put_some, at_mk, fits_some, ↓look_cons, ↓vlook_t, ↓vlook_f, guard_none, ↓vrun_nil, ↓code_region, ↓code_seq, ↓onNormal_normal, load_ptr, vld_one, blk_zero, faddr_ptr, vfap_some, bin_int, int_lss, len_sl, vlk_sl, bi_len, evG_eq, ↓vrun_cons, ↓run1_some, ↓runG_true, ↓run2_none, ↓run3_some, ↓code_cond, ↓vtest_bool, at_hp, List.map_nil, List.getElem?_cons_zero, List.getElem?_cons_succ, List.map_cons, List.map_nil, Option.map_some, ↓reduceIte, reduceCtorEq, Nat.reduceLT, Nat.reduceBEq, Int.reduceLT, Int.reduceBEq, Nat.zero_add, true_and, Bool.true_and, beq_self_eq_true, fz_len, Try.vt31, Try.vkind31, Try.vfield34x2, dec_t, Rm.d, e3]
          refine vbr_split (fun hc => ?_) (fun hc => ?_) <;> simp only [decide_eq_true_eq, decide_eq_false_iff_not, Bool.or_eq_true, Bool.and_eq_true, Bool.or_eq_false_iff, Bool.and_eq_false_imp, Bool.not_eq_true', Bool.not_eq_false', beq_iff_eq, beq_eq_false_iff_ne, bne_iff_ne, bne_eq_false_iff_eq, ne_eq] at hc
          · have hlt : s0.i < l'.length := by omega
            have hg := fzP_at l s0.i (by omega)
            have hg' := fzP_at l' s0.i hlt
            have hd1 := getD_eqQ l s0.i (by omega) ⟨0, 0⟩
            have hd2 := getD_eqQ l' s0.i hlt ⟨0, 0⟩
            have hlt' : s0.i < l.length := by omega
            by_cases he : l.getD s0.i ⟨0, 0⟩ = l'.getD s0.i ⟨0, 0⟩
            · have hn : decide (l.getD s0.i ⟨0, 0⟩ = l'.getD s0.i ⟨0, 0⟩) = true := decide_eq_true he
              rw [hd1, hd2] at he
              rw [he] at hg
              simp (config := { maxSteps := 2000000 }) (implicitDefEqProofs := false) (disch := first | omega | assumption) only [↓code_skip, ↓code_draw, ↓code_seq, ↓code_block, ↓onNormal_normal, dec_t]
              refine vdraw (by kernel_rfl) (by kernel_rfl) ?_
              simp (config := { maxSteps := 2000000 }) (implicitDefEqProofs := false) (disch := first | omega | assumption | (simp only [List.length_cons, List.length_nil, Nat.zero_add, Nat.reduceAdd]; done) | fail) only [vop_move, vcallee_move, okKind_move, foot_move, vop_assign, vcallee_assign, vop_load, vcallee_load, okKind_load, vop_binOp, vcallee_binOp, okKind_binOp, foot_binOp, vop_fieldAddr, vcallee_fieldAddr, okKind_fieldAddr, foot_fieldAddr, vop_indexAddr, vcallee_indexAddr, okKind_indexAddr, foot_indexAddr, foot_load, ptrNo_ptr, ptrNo_ip, bin2_tmp, bin2_int, strip_pv, strip_ptr, strip_ip, strip_agg, optV_none, ev_tmp, ev_const, ofConst_int, put_some, at_mk, fits_some, ↓look_cons, ↓vlook_t, ↓vlook_f, guard_none, ↓vrun_nil, ↓vdr_nil, ↓code_skip, ↓code_region, ↓onNormal_normal, ↓onBlock_normal, load_ptr, load_ip, vld_one, vldp_agg, blk_zero, blk_succ, faddr_ptr, vfap_some, iaddr_sl, vias_some, bin_int, int_add, okc_nil, okc_none, okc_other, okc_one, evG_eq, ↓vrun_cons, ↓run1_some, ↓runG_true, ↓run2_none, ↓run3_some, ↓vdr_cons, ↓dr1_some, ↓drG_true, ↓dr2_none, ↓dr3_some, ↓code_cond, ↓vtest_bool, ↓vbr_false, at_hp, bin_agg, vba_neq, List.map_nil, List.getElem?_cons_zero, List.getElem?_cons_succ, List.length_cons, List.length_nil, List.map_cons, List.map_nil, List.cons_append, List.nil_append, List.take_succ_cons, List.take_nil, List.any_nil, List.any_cons, Option.map_some, ↓reduceIte, reduceCtorEq, Nat.reduceAdd, Nat.reduceLT, Nat.reduceBEq, Int.reduceLT, Int.reduceAdd, Int.reduceBEq, Int.toNat_natCast, Nat.zero_add, true_and, and_self, and_false, or_false, or_self, Bool.not_true, Bool.not_false, Bool.or_false, Bool.true_and, Bool.and_false, Bool.or_self, Bool.and_self, beq_self_eq_true, Nat.le_refl, Try.vt31, Try.velem31, Try.vfield34x2, Try.vt61, Try.leaves61, Try.eqg61, wrap_i64_in, dec_t, hg, hg', allEq_w]
              exact ⟨s0.next hlt hn, by show l'.length - (s0.i + 1) < l'.length - s0.i; omega, .inl (by refine ⟨rfl, rfl, by simp, ?_, ?_, .inr ⟨?_, ?_⟩⟩ <;> (repeat' apply And.intro) <;> first | rfl | trivial | (intro _; first | rfl | apply cells_refs))⟩
            · have hne : ¬ (⟨p, s, l, m⟩ : Rm) = ⟨p, s, l', m'⟩ := fun e => by cases e; exact he rfl
              rw [decide_eq_false hne]
              rw [hd1, hd2] at he
              generalize l[s0.i] = x at *
              generalize l'[s0.i] = y at *
              obtain ⟨x1, x2⟩ := x
              obtain ⟨y1, y2⟩ := y
              have he2 : (decide (x1 = y1) && decide (x2 = y2)) = false := by
                simp only [Pl.mk.injEq] at he
                by_cases z1 : x1 = y1 <;> by_cases z2 : x2 = y2 <;> simp [z1, z2] at he ⊢
              simp (config := { maxSteps := 2000000 }) (implicitDefEqProofs := false) (disch := first | omega | assumption) only [↓code_skip, ↓code_draw, ↓code_seq, ↓code_block, ↓onNormal_normal, dec_t]
              refine vdraw (by kernel_rfl) (by kernel_rfl) ?_
              simp (config := { maxSteps := 2000000 }) (implicitDefEqProofs := false) (disch := first | omega | assumption | (simp only [List.length_cons, List.length_nil, Nat.zero_add, Nat.reduceAdd]; done) | fail) only [vop_move, vcallee_move, okKind_move, foot_move, vop_assign, vcallee_assign, vop_load, vcallee_load, okKind_load, vop_binOp, vcallee_binOp, okKind_binOp, foot_binOp, vop_fieldAddr, vcallee_fieldAddr, okKind_fieldAddr, foot_fieldAddr, vop_indexAddr, vcallee_indexAddr, okKind_indexAddr, foot_indexAddr, foot_load, ptrNo_ptr, ptrNo_ip, bin2_tmp, strip_pv, strip_ptr, strip_ip, strip_agg, optV_none, ev_tmp, ev_const, ofConst_bool, put_some, at_mk, fits_some, ↓look_cons, ↓vlook_t, ↓vlook_f, guard_none, ↓vrun_nil, ↓vdr_nil, ↓code_region, ↓code_seq, ↓code_ret, ↓onNormal_normal, ↓onNormal_ret, ↓onBlock_ret, frz_pv, frzHeap_zero, res_one, vres_tmp, load_ptr, load_ip, vld_one, vldp_agg, blk_zero, blk_succ, faddr_ptr, vfap_some, iaddr_sl, vias_some, okc_nil, okc_none, okc_other, okc_one, evG_eq, ↓vrun_cons, ↓run1_some, ↓runG_true, ↓run2_none, ↓run3_some, ↓vdr_cons, ↓dr1_some, ↓drG_true, ↓dr2_none, ↓dr3_some, ↓code_cond, ↓vtest_bool, ↓vbr_true, ↓vpost_ret, vfin_some, vfin2_some, at_hp, bin_agg, vba_neq, List.map_nil, List.getElem?_cons_zero, List.getElem?_cons_succ, List.length_cons, List.length_nil, List.map_cons, List.map_nil, List.cons_append, List.nil_append, List.take_succ_cons, List.take_nil, List.any_nil, List.any_cons, Option.map_some, ↓reduceIte, reduceCtorEq, Nat.reduceAdd, Nat.reduceLT, Nat.reduceBEq, Int.reduceLT, Int.reduceAdd, Int.reduceBEq, Int.toNat_natCast, Nat.zero_add, and_self, and_false, or_false, or_self, Bool.not_false, Bool.or_false, Bool.and_false, Bool.or_self, Bool.and_self, beq_self_eq_true, Nat.le_refl, Try.vt31, Try.velem31, Try.vfield34x2, Try.vt61, Try.leaves61, Try.eqg61, dec_t, Ret, DV.nums, hg, hg', allEq_w, he2]
          · have hall := s0.all (by omega)
            have hll : l = l' := by
              refine List.ext_getElem e3 fun i h1 h2 => ?_
              rw [List.all_eq_true] at hall
              have := hall i (by rwa [List.mem_range])
              rwa [decide_eq_true_eq, getD_eqQ l i h1, getD_eqQ l' i h2] at this
            subst hll
            simp (config := { maxSteps := 2000000 }) (implicitDefEqProofs := false) (disch := first | omega | assumption | (simp only []; done) | fail) only [vop_assign, vcallee_assign, strip_pv, optV_none, ev_const, ofConst_int, put_some, at_mk, fits_some, guard_none, ↓vrun_nil, ↓code_region, ↓code_seq, ↓code_block, ↓code_loop, ↓code_exit, ↓onNormal_normal, ↓onNormal_exit, ↓onBlock_exit, evG_eq, ↓vrun_cons, ↓run1_some, ↓runG_true, ↓run2_none, ↓run3_some, ↓reduceIte, Nat.reduceLT, Int.reduceLT, true_and, Bool.true_and, dec_t, dec_f]
            refine vloopW (fun s1 : OkayQ m'.length (fun i => decide (m.getD i 0 = m'.getD i 0)) => ⟨73, 0, [(6, .int .i64 s1.i), (4, .bool false), (3, .ptr 1 0), (2, .ptr 0 0)], [⟨34, true, Rm.d ⟨p, s, l, m⟩⟩, ⟨34, true, Rm.d ⟨p, s, l, m'⟩⟩]⟩) (fun s1 => m'.length - s1.i) (OkayQ.start _ _) (.inl (by refine ⟨rfl, rfl, by simp, ?_, ?_, .inr ⟨?_, ?_⟩⟩ <;> (repeat' apply And.intro) <;> first | rfl | trivial | (intro _; first | rfl | apply cells_refs))) ?_
            rintro s1
            simp (config := { maxSteps := 2000000 }) (implicitDefEqProofs := false) (disch := first | omega | assumption | (simp only []; done) | fail) only [vop_move, vcallee_move, vop_load, vcallee_load, vop_binOp, vcallee_binOp, vop_fieldAddr, vcallee_fieldAddr, vop_builtin, vcallee_builtin, bin2_tmp, strip_pv, strip_ptr, optV_none, ev_tmp, put_some, at_mk, fits_some, ↓look_cons, ↓vlook_t, ↓vlook_f, guard_none, ↓vrun_nil, ↓code_region, ↓code_seq, ↓onNormal_normal, load_ptr, vld_one, blk_zero, faddr_ptr, vfap_some, bin_int, int_lss, len_sl, vlk_sl, bi_len, evG_eq, ↓vrun_cons, ↓run1_some, ↓runG_true, ↓run2_none, ↓run3_some, ↓code_cond, ↓vtest_bool, at_hp, List.map_nil, List.getElem?_cons_zero, List.getElem?_cons_succ, List.map_cons, List.map_nil, Option.map_some, ↓reduceIte, reduceCtorEq, Nat.reduceLT, Nat.reduceBEq, Int.reduceLT, Int.reduceBEq, Nat.zero_add, true_and, Bool.true_and, beq_self_eq_true, fz_len, Try.vt32, Try.vkind32, Try.vfield34x3, dec_t, Rm.d, e4]
            refine vbr_split (fun hc1 => ?_) (fun hc1 => ?_) <;> simp only [decide_eq_true_eq, decide_eq_false_iff_not, Bool.or_eq_true, Bool.and_eq_true, Bool.or_eq_false_iff, Bool.and_eq_false_imp, Bool.not_eq_true', Bool.not_eq_false', beq_iff_eq, beq_eq_false_iff_ne, bne_iff_ne, bne_eq_false_iff_eq, ne_eq] at hc1
            · have hlt : s1.i < m'.length := by omega
              have hlt' : s1.i < m.length := by omega
              have hg := fzI_get m s1.i (by omega)
              have hg' := fzI_get m' s1.i hlt
              by_cases he : m.getD s1.i 0 = m'.getD s1.i 0
              · have hn : decide (m.getD s1.i 0 = m'.getD s1.i 0) = true := decide_eq_true he
                rw [he] at hg
                simp (config := { maxSteps := 2000000 }) (implicitDefEqProofs := false) (disch := first | omega | assumption) only [↓code_skip, ↓code_draw, ↓code_seq, ↓code_block, ↓onNormal_normal, dec_t]
                refine vdraw (by kernel_rfl) (by kernel_rfl) ?_
                simp (config := { maxSteps := 2000000 }) (implicitDefEqProofs := false) (disch := first | omega | assumption | (simp only [List.length_cons, List.length_nil, Nat.zero_add]; done) | fail) only [vop_move, vcallee_move, okKind_move, foot_move, vop_assign, vcallee_assign, vop_load, vcallee_load, okKind_load, vop_binOp, vcallee_binOp, okKind_binOp, foot_binOp, vop_fieldAddr, vcallee_fieldAddr, okKind_fieldAddr, foot_fieldAddr, vop_indexAddr, vcallee_indexAddr, okKind_indexAddr, foot_indexAddr, foot_load, ptrNo_ptr, ptrNo_ip, bin2_tmp, bin2_int, strip_pv, strip_ptr, strip_ip, optV_none, ev_tmp, ev_const, ofConst_int, put_some, at_mk, fits_some, ↓look_cons, ↓vlook_t, ↓vlook_f, guard_none, ↓vrun_nil, ↓vdr_nil, ↓code_skip, ↓code_region, ↓onNormal_normal, ↓onBlock_normal, load_ptr, load_ip, vld_one, vldp_one, blk_zero, blk_succ, faddr_ptr, vfap_some, iaddr_sl, vias_some, bin_int, int_add, int_neq, okc_nil, okc_none, okc_other, okc_one, evG_eq, ↓vrun_cons, ↓run1_some, ↓runG_true, ↓run2_none, ↓run3_some, ↓vdr_cons, ↓dr1_some, ↓drG_true, ↓dr2_none, ↓dr3_some, ↓code_cond, ↓vtest_bool, ↓vbr_false, at_hp, List.getElem?_cons_zero, List.getElem?_cons_succ, List.cons_append, List.nil_append, List.any_nil, List.any_cons, Option.map_some, ↓reduceIte, reduceCtorEq, Nat.reduceAdd, Nat.reduceLT, Nat.reduceBEq, Int.reduceLT, Int.reduceAdd, Int.reduceBEq, Int.toNat_natCast, Nat.zero_add, true_and, and_self, and_false, or_false, or_self, Bool.not_false, Bool.or_false, Bool.true_and, Bool.and_false, Bool.or_self, Bool.and_self, beq_self_eq_true, Try.vt3, Try.vt32, Try.velem32, Try.vfield34x3, wrap_i64_in, dec_t, int_bne_f, hg, hg']
                exact ⟨s1.next hlt hn, by show m'.length - (s1.i + 1) < m'.length - s1.i; omega, .inl (by refine ⟨rfl, rfl, by simp, ?_, ?_, .inr ⟨?_, ?_⟩⟩ <;> (repeat' apply And.intro) <;> first | rfl | trivial | (intro _; first | rfl | apply cells_refs))⟩
              · have hne : ¬ (⟨p, s, l, m⟩ : Rm) = ⟨p, s, l, m'⟩ := fun e => by cases e; exact he rfl
                rw [decide_eq_false hne]
                simp (config := { maxSteps := 2000000 }) (implicitDefEqProofs := false) (disch := first | omega | assumption) only [↓code_skip, ↓code_draw, ↓code_seq, ↓code_block, ↓onNormal_normal, dec_t]
                refine vdraw (by kernel_rfl) (by kernel_rfl) ?_
                simp (config := { maxSteps := 2000000 }) (implicitDefEqProofs := false) (disch := first | omega | assumption | (simp only [List.length_cons, List.length_nil, Nat.zero_add]; done) | fail) only [vop_move, vcallee_move, okKind_move, foot_move, vop_assign, vcallee_assign, vop_load, vcallee_load, okKind_load, vop_binOp, vcallee_binOp, okKind_binOp, foot_binOp, vop_fieldAddr, vcallee_fieldAddr, okKind_fieldAddr, foot_fieldAddr, vop_indexAddr, vcallee_indexAddr, okKind_indexAddr, foot_indexAddr, foot_load, ptrNo_ptr, ptrNo_ip, bin2_tmp, strip_pv, strip_ptr, strip_ip, optV_none, ev_tmp, ev_const, ofConst_bool, put_some, at_mk, fits_some, ↓look_cons, ↓vlook_t, ↓vlook_f, guard_none, ↓vrun_nil, ↓vdr_nil, ↓code_region, ↓code_seq, ↓code_ret, ↓onNormal_normal, ↓onNormal_ret, ↓onBlock_ret, frz_pv, frzHeap_zero, res_one, vres_tmp, load_ptr, load_ip, vld_one, vldp_one, blk_zero, blk_succ, faddr_ptr, vfap_some, iaddr_sl, vias_some, bin_int, int_neq, okc_nil, okc_none, okc_other, okc_one, evG_eq, ↓vrun_cons, ↓run1_some, ↓runG_true, ↓run2_none, ↓run3_some, ↓vdr_cons, ↓dr1_some, ↓drG_true, ↓dr2_none, ↓dr3_some, ↓code_cond, ↓vtest_bool, ↓vbr_true, ↓vpost_ret, vfin_some, vfin2_some, at_hp, List.getElem?_cons_zero, List.getElem?_cons_succ, List.cons_append, List.nil_append, List.any_nil, List.any_cons, Option.map_some, ↓reduceIte, reduceCtorEq, Nat.reduceAdd, Nat.reduceLT, Nat.reduceBEq, Int.reduceLT, Int.reduceAdd, Int.reduceBEq, Int.toNat_natCast, Nat.zero_add, and_self, and_false, or_false, or_self, Bool.not_false, Bool.or_false, Bool.and_false, Bool.or_self, Bool.and_self, beq_self_eq_true, Try.vt3, Try.vt32, Try.velem32, Try.vfield34x3, dec_t, int_bne_t, Ret, DV.nums, hg, hg']
            · have hall := s1.all (by omega)
              have hmm : m = m' := by
                refine List.ext_getElem e4 fun i h1 h2 => ?_
                rw [List.all_eq_true] at hall
                have := hall i (by rwa [List.mem_range])
                rwa [decide_eq_true_eq, getD_eqQ m i h1, getD_eqQ m' i h2] at this
              subst hmm
              rw [decide_eq_true rfl]
              simp (config := { maxSteps := 2000000 }) (implicitDefEqProofs := false) (disch := first | omega | assumption | (simp only []; done) | fail) only [vop_assign, vcallee_assign, strip_pv, optV_none, ev_const, ofConst_bool, put_some, at_mk, fits_some, ↓look_cons, ↓vlook_t, guard_none, ↓vrun_nil, ↓code_region, ↓code_seq, ↓code_exit, ↓code_ret, ↓onNormal_normal, ↓onNormal_exit, ↓onBlock_exit, frz_pv, frzHeap_zero, res_one, vres_tmp, evG_eq, ↓vrun_cons, ↓run1_some, ↓runG_true, ↓run2_none, ↓run3_some, ↓vpost_ret, vfin_some, vfin2_some, at_hp, ↓reduceIte, Nat.reduceLT, Int.reduceLT, and_self, Bool.and_self, beq_self_eq_true, dec_t, dec_f, Ret, DV.nums]
        · have e5 : ¬ (⟨p, s, l, m⟩ : Rm) = ⟨p, s, l', m'⟩ := fun e => by cases e; exact e4 rfl
          rw [decide_eq_false e5]
          simp (config := { maxSteps := 2000000 }) (implicitDefEqProofs := false) (disch := first | omega | assumption | (simp only []; done) | fail) only [vop_move, vcallee_move, vop_assign, vcallee_assign, vop_pick, vcallee_pick, vop_box, vcallee_box, vop_load, vcallee_load, vop_binOp, vcallee_binOp, vop_fieldAddr, vcallee_fieldAddr, vop_builtin, vcallee_builtin, bin2_tmp, vpick_bool, strip_pv, strip_ptr, strip_agg, strip_opt, vstr_true, optV_none, optV_some, pickV_bool, ev_tmp, ev_const, ofConst_bool, put_some, at_mk, fits_some, ↓look_cons, ↓vlook_t, ↓vlook_f, guard_none, guard_some, vgof_bool, ↓vrun_nil, ↓code_region, ↓code_seq, ↓code_ret, ↓onNormal_normal, ↓onNormal_ret, frz_pv, frzHeap_zero, res_one, vres_tmp, load_ptr, vld_one, blk_zero, blk_succ, box_eq, allOne_nil, allOne_cons, one_pv, faddr_ptr, vfap_some, bin_int, int_neq, len_sl, vlk_sl, bi_len, enum_nil, enum_cons, evG_eq, ↓vrun_cons, ↓run1_some, ↓runG_true, ↓run2_none, ↓run3_some, ↓code_cond, ↓vtest_bool, ↓vbr_true, ↓vpost_ret, vfin_some, vfin2_some, at_hp, List.map_nil, dcells, List.toList_toArray, List.getElem?_cons_zero, List.getElem?_cons_succ, List.length_cons, List.length_nil, List.map_cons, List.map_nil, List.cons_append, List.nil_append, Option.map_some, Option.bind_some, ↓reduceIte, reduceCtorEq, Nat.reduceAdd, Nat.reduceLT, Nat.reduceBEq, Int.reduceLT, Int.reduceAdd, Int.reduceBEq, Nat.zero_add, Nat.add_zero, and_self, or_true, Bool.not_true, Bool.not_false, Bool.or_true, Bool.and_self, cond_false, Bool.cond_self, beq_self_eq_true, fz_len, Try.vt3, Try.vt31, Try.vkind31, Try.vt32, Try.vkind32, Try.vfield34x0, Try.vfield34x1, Try.vfield34x2, Try.vfield34x3, dec_t, int_bne_t, int_bne_f, Ret, DV.nums, Try.f15, Rm.d, e3]
      · have e5 : ¬ (⟨p, s, l, m⟩ : Rm) = ⟨p, s, l', m'⟩ := fun e => by cases e; exact e3 rfl
        rw [decide_eq_false e5]
        simp (config := { maxSteps := 2000000 }) (implicitDefEqProofs := false) (disch := first | omega | assumption | (simp only []; done) | fail) only [vop_move, vcallee_move, vop_assign, vcallee_assign, vop_pick, vcallee_pick, vop_box, vcallee_box, vop_load, vcallee_load, vop_binOp, vcallee_binOp, vop_fieldAddr, vcallee_fieldAddr, vop_builtin, vcallee_builtin, bin2_tmp, vpick_bool, strip_pv, strip_ptr, strip_agg, strip_tup, strip_opt, vstr_true, optV_none, optV_some, pickV_bool, ev_tmp, ev_const, ofConst_bool, put_some, at_mk, fits_some, ↓look_cons, ↓vlook_t, ↓vlook_f, guard_none, guard_some, vgof_bool, ↓vrun_nil, ↓code_region, ↓code_seq, ↓code_ret, ↓onNormal_normal, ↓onNormal_ret, frz_pv, frzHeap_zero, res_one, vres_tmp, load_ptr, vld_one, blk_zero, blk_succ, box_eq, allOne_nil, allOne_cons, one_pv, faddr_ptr, vfap_some, bin_int, int_neq, len_sl, vlk_sl, bi_len, enum_nil, enum_cons, evG_eq, ↓vrun_cons, ↓run1_some, ↓runG_true, ↓runG_false, ↓run2_none, ↓run3_some, ↓code_cond, ↓vtest_bool, ↓vbr_true, ↓vpost_ret, vfin_some, vfin2_some, at_hp, pickV_t, List.map_nil, dcells, List.toList_toArray, List.getElem?_cons_zero, List.getElem?_cons_succ, List.length_cons, List.length_nil, List.map_cons, List.map_nil, List.cons_append, List.nil_append, Option.map_some, Option.bind_some, ↓reduceIte, reduceCtorEq, Nat.reduceAdd, Nat.reduceLT, Nat.reduceBEq, Int.reduceLT, Int.reduceAdd, Int.reduceBEq, Nat.zero_add, Nat.add_zero, and_self, or_true, Bool.not_true, Bool.not_false, Bool.or_true, Bool.and_self, b_beq_f, cond_false, Bool.cond_self, beq_self_eq_true, fz_len, Try.vt3, Try.vt31, Try.vkind31, Try.vfield34x0, Try.vfield34x1, Try.vfield34x2, dec_t, int_bne_t, int_bne_f, Ret, DV.nums, Try.f15, Rm.d]
    · have e5 : ¬ (⟨p, s, l, m⟩ : Rm) = ⟨p, s', l', m'⟩ := fun e => by cases e; exact e2 rfl
      rw [decide_eq_false e5]
      simp (config := { maxSteps := 2000000 }) (implicitDefEqProofs := false) (disch := first | omega | assumption | (simp only []; done) | fail) only [vop_move, vcallee_move, vop_assign, vcallee_assign, vop_pick, vcallee_pick, vop_box, vcallee_box, vop_load, vcallee_load, vop_binOp, vcallee_binOp, vop_fieldAddr, vcallee_fieldAddr, bin2_tmp, vpick_bool, strip_pv, strip_ptr, strip_agg, strip_tup, strip_opt, vstr_true, optV_none, optV_some, pickV_bool, ev_tmp, ev_const, ofConst_bool, put_some, at_mk, fits_some, ↓look_cons, ↓vlook_t, ↓vlook_f, guard_none, guard_some, vgof_bool, ↓vrun_nil, ↓code_region, ↓code_seq, ↓code_ret, ↓onNormal_normal, ↓onNormal_ret, frz_pv, frzHeap_zero, res_one, vres_tmp, load_ptr, vld_one, blk_zero, blk_succ, box_eq, allOne_nil, allOne_cons, one_pv, faddr_ptr, vfap_some, bin_int, int_neq, enum_nil, enum_cons, evG_eq, ↓vrun_cons, ↓run1_some, ↓runG_true, ↓runG_false, ↓run2_none, ↓run3_some, ↓code_cond, ↓vtest_bool, ↓vbr_true, ↓vpost_ret, vfin_some, vfin2_some, at_hp, pickV_t, dcells, List.toList_toArray, List.getElem?_cons_zero, List.getElem?_cons_succ, List.length_cons, List.length_nil, List.cons_append, List.nil_append, Option.map_some, Option.bind_some, ↓reduceIte, reduceCtorEq, Nat.reduceAdd, Nat.reduceLT, Nat.reduceBEq, Int.reduceLT, Int.reduceAdd, Int.reduceBEq, Nat.zero_add, Nat.add_zero, and_self, or_true, Bool.not_true, Bool.not_false, Bool.or_true, Bool.and_self, b_beq_f, Bool.cond_self, beq_self_eq_true, Try.vt3, Try.vfield34x0, Try.vfield34x1, dec_t, int_bne_t, int_bne_f, Ret, DV.nums, Try.f15, Rm.d]
  · have e5 : ¬ (⟨p, s, l, m⟩ : Rm) = ⟨p', s', l', m'⟩ := fun e => by cases e; exact e1 rfl
    rw [decide_eq_false e5]
    simp (config := { maxSteps := 2000000 }) (implicitDefEqProofs := false) (disch := first | omega | assumption | (simp only []; done) | fail) only [vop_move, vcallee_move, vop_assign, vcallee_assign, vop_pick, vcallee_pick, vop_box, vcallee_box, vop_load, vcallee_load, vop_binOp, vcallee_binOp, vop_fieldAddr, vcallee_fieldAddr, bin2_tmp, vpick_bool, strip_pv, strip_ptr, strip_agg, strip_tup, optV_none, ev_tmp, ev_const, ofConst_bool, put_some, at_mk, fits_some, ↓look_cons, ↓vlook_t, ↓vlook_f, guard_none, guard_some, vgof_bool, ↓vrun_nil, ↓code_region, ↓code_seq, ↓code_ret, ↓onNormal_normal, ↓onNormal_ret, frz_pv, frzHeap_zero, res_one, vres_tmp, load_ptr, vld_one, blk_zero, blk_succ, box_eq, allOne_nil, allOne_cons, one_pv, faddr_ptr, vfap_some, bin_int, int_neq, enum_nil, enum_cons, evG_eq, ↓vrun_cons, ↓run1_some, ↓runG_true, ↓runG_false, ↓run2_none, ↓run3_some, ↓code_cond, ↓vtest_bool, ↓vbr_true, ↓vpost_ret, vfin_some, vfin2_some, at_hp, pickV_t, dcells, List.toList_toArray, List.getElem?_cons_zero, List.getElem?_cons_succ, List.length_cons, List.length_nil, List.cons_append, List.nil_append, Option.map_some, Option.bind_some, ↓reduceIte, reduceCtorEq, Nat.reduceAdd, Nat.reduceLT, Nat.reduceBEq, Int.reduceLT, Int.reduceAdd, Int.reduceBEq, Nat.zero_add, Nat.add_zero, and_self, Bool.not_true, Bool.and_self, b_beq_f, beq_self_eq_true, Try.vt3, Try.vfield34x0, dec_t, int_bne_t, Ret, DV.nums, Try.f15, Rm.d]
end Go.Proofs.Ytnilcppifcekmaa
namespace Go.Proofs.Ytnilcppifcekmaa
open Go.V Go
theorem nodup_sub_len {α : Type} [BEq α] [LawfulBEq α] : ∀ (A B : List α), A.Nodup → (∀ a ∈ A, a ∈ B) → A.length ≤ B.length
  | [], _, _, _ => Nat.zero_le _
  | a :: r, B, hn, hs => by
    rw [List.nodup_cons] at hn
    have hm := hs a (by simp)
    have := nodup_sub_len r (B.erase a) hn.2 (fun b hb => by
      have hne : b ≠ a := fun e => hn.1 (e ▸ hb)
      exact (List.mem_erase_of_ne hne).2 (hs b (by simp [hb])))
    rw [List.length_erase_of_mem hm] at this
    have := List.length_pos_of_mem hm
    simp only [List.length_cons]; omega
theorem asc_nd (l : List Int) (h : l.Pairwise (· < ·)) : l.Nodup := h.imp fun {a b} h e => by omega
theorem lo_take (l : List Int) (a : Int) : ∀ x ∈ l.take (lo l fun x => decide (x < a)), x < a := fun x hx => by
  obtain ⟨j, hj, rfl⟩ := List.mem_take_iff_getElem.1 hx
  have := lo_before l (fun x => decide (x < a)) j (by omega) (by omega)
  simpa using this
theorem lo_drop (l : List Int) (h : l.Pairwise (· < ·)) (a : Int) : ∀ x ∈ l.drop (lo l fun x => decide (x < a)), a ≤ x := fun x hx => by
  obtain ⟨j, hj, rfl⟩ := List.mem_drop_iff_getElem.1 hx
  have h0 := lo_at l (fun x => decide (x < a)) (by omega)
  simp only [decide_eq_false_iff_not] at h0
  rcases Nat.eq_zero_or_pos j with rfl | hp
  · simp only [Nat.add_zero]; omega
  · have := List.pairwise_iff_getElem.mp h (lo l fun x => decide (x < a)) ((lo l fun x => decide (x < a)) + j) (by omega) (by omega) (by omega)
    omega
theorem mem_ins {α : Type} (l : List α) (i : Nat) (a x : α) : x ∈ l.take i ++ a :: l.drop i ↔ x = a ∨ x ∈ l := by
  conv => rhs; rw [← List.take_append_drop i l]
  simp only [List.mem_append, List.mem_cons]
  grind
theorem mem_insB (l : List Int) (a x : Int) : x ∈ insB l a ↔ x = a ∨ x ∈ l := mem_ins l _ a x
theorem insB_asc (l : List Int) (h : l.Pairwise (· < ·)) (a : Int) (hn : ¬ a ∈ l) : (insB l a).Pairwise (· < ·) := by
  have hd : ∀ y ∈ l.drop (lo l fun x => decide (x < a)), a < y := fun y hy => by
    have h1 := lo_drop l h a y hy
    have : y ≠ a := fun e => hn (e ▸ List.mem_of_mem_drop hy)
    omega
  rw [insB, List.pairwise_append]
  refine ⟨h.sublist (List.take_sublist _ _), List.pairwise_cons.2 ⟨hd, h.sublist (List.drop_sublist _ _)⟩, fun x hx y hy => ?_⟩
  have h1 := lo_take l a x hx
  rcases List.mem_cons.1 hy with rfl | hy
  · exact h1
  · have := hd y hy; omega
theorem pfound_at (l : List Pl) (n : Int) (h : pfound l n = true) : ∃ hi : plo l n < l.length, l[plo l n].pg = n := by
  unfold pfound at h
  cases hx : l[plo l n]? with
  | none => rw [hx] at h; simp at h
  | some p =>
    obtain ⟨hlt, he⟩ := List.getElem?_eq_some_iff.1 hx
    rw [hx] at h
    refine ⟨hlt, ?_⟩
    rw [he]
    simp at h; omega
theorem pfound_not (l : List Pl) (h : (l.map (·.pg)).Pairwise (· < ·)) (n : Int) (hf : ¬ pfound l n = true) : ∀ p ∈ l, p.pg ≠ n := by
  have := pfound_find l h n
  rw [if_neg hf, List.find?_eq_none] at this
  intro p hp e
  exact this p hp (by simp [e])
theorem plo_lo (l : List Pl) (n : Int) : plo l n = lo (l.map (·.pg)) fun x => decide (x < n) := by
  rw [plo, lo, lo, List.takeWhile_map, List.length_map]
  congr 2
  funext p
  simp only [Function.comp]
  exact decide_eq_decide.2 (by omega)
theorem setP_pgs (l : List Pl) (n f : Int) : (setP l n f).map (·.pg) = if pfound l n = true then l.map (·.pg) else insB (l.map (·.pg)) n := by
  rw [setP]
  split
  · rename_i hf
    obtain ⟨hi, he⟩ := pfound_at l n hf
    apply List.ext_getElem
    · simp
    · intro k h1 h2
      simp only [List.getElem_map, List.getElem_set]
      split
      · rename_i e; subst e; exact he.symm
      · rfl
  · rw [insB, ← plo_lo, List.map_append, List.map_cons, List.map_take, List.map_drop]
theorem mem_setP (l : List Pl) (h : (l.map (·.pg)).Pairwise (· < ·)) (n f : Int) (p : Pl) : p ∈ setP l n f ↔ p = ⟨n, f⟩ ∨ (p ∈ l ∧ p.pg ≠ n) := by
  rw [setP]
  split
  · rename_i hf
    obtain ⟨hi, he⟩ := pfound_at l n hf
    have hne : ∀ j, ∀ hj : j < l.length, j ≠ plo l n → l[j].pg ≠ n := fun j hj hjn => by
      have hp : ∀ a b, ∀ ha : a < l.length, ∀ hb : b < l.length, a < b → l[a].pg < l[b].pg := fun a b ha hb hab => by
        have := List.pairwise_iff_getElem.mp h a b (by rwa [List.length_map]) (by rwa [List.length_map]) hab
        rwa [List.getElem_map, List.getElem_map] at this
      rcases Nat.lt_or_gt_of_ne hjn with h1 | h1
      · have := hp j _ hj hi h1; omega
      · have := hp _ j hi hj h1; omega
    constructor
    · intro hm
      obtain ⟨j, hj, rfl⟩ := List.getElem_of_mem hm
      rw [List.length_set] at hj
      rw [List.getElem_set]
      split
      · exact .inl rfl
      · rename_i e; exact .inr ⟨List.getElem_mem hj, hne j hj (fun x => e x.symm)⟩
    · rintro (rfl | ⟨hm, hpn⟩)
      · exact List.mem_iff_getElem.2 ⟨plo l n, by rwa [List.length_set], by rw [List.getElem_set_self]⟩
      · obtain ⟨j, hj, rfl⟩ := List.getElem_of_mem hm
        have hjn : plo l n ≠ j := fun e => by subst e; exact hpn he
        exact List.mem_iff_getElem.2 ⟨j, by rwa [List.length_set], by rw [List.getElem_set_ne hjn]⟩
  · rename_i hf
    have hno := pfound_not l h n hf
    rw [mem_ins]
    constructor
    · rintro (e | hm)
      · exact .inl e
      · exact .inr ⟨hm, hno p hm⟩
    · rintro (e | ⟨hm, _⟩)
      · exact .inl e
      · exact .inr hm
theorem setP_len (l : List Pl) (n f : Int) : (setP l n f).length = if pfound l n = true then l.length else l.length + 1 := by
  rw [setP]
  have : plo l n ≤ l.length := lo_le _ _
  split
  · rw [List.length_set]
  · simp only [List.length_append, List.length_cons, List.length_take, List.length_drop]; omega
theorem places_bad (r : Rm) (h : r.Ok) (y : Int) (hy : y < r.pages) : y ∈ r.bad ↔ y ∈ r.places.map (·.pg) := by
  constructor
  · intro hb
    refine Classical.byContradiction fun hn => ?_
    have := nodup_sub_len (y :: r.places.map (·.pg)) (r.bad.filter fun x => decide (x < r.pages)) (List.nodup_cons.2 ⟨hn, asc_nd _ h.pasc⟩) fun a ha => by
      rw [List.mem_filter, decide_eq_true_eq]
      rcases List.mem_cons.1 ha with rfl | ha
      · exact ⟨hb, hy⟩
      · obtain ⟨p, hp, rfl⟩ := List.mem_map.1 ha
        have := h.prng p hp
        exact ⟨this.2.2.1, this.2.1⟩
    rw [h.own, List.length_cons, List.length_map] at this
    omega
  · intro hm
    obtain ⟨p, hp, rfl⟩ := List.mem_map.1 hm
    exact (h.prng p hp).2.2.1
theorem ad_inj (r : Rm) (h : r.Ok) (p q : Pl) (hp : p ∈ r.places) (hq : q ∈ r.places) (e : p.ad = q.ad) : p = q := by
  obtain ⟨i, hi, rfl⟩ := List.getElem_of_mem hp
  obtain ⟨j, hj, rfl⟩ := List.getElem_of_mem hq
  have := List.pairwise_iff_getElem.mp h.adnd
  simp only [List.length_map, List.getElem_map] at this
  rcases Nat.lt_trichotomy i j with h1 | rfl | h1
  · exact absurd e (this i j hi hj h1)
  · rfl
  · exact absurd e.symm (this j i hj hi h1)
theorem pg_inj (r : Rm) (h : r.Ok) (p q : Pl) (hp : p ∈ r.places) (hq : q ∈ r.places) (e : p.pg = q.pg) : p = q := by
  obtain ⟨i, hi, rfl⟩ := List.getElem_of_mem hp
  obtain ⟨j, hj, rfl⟩ := List.getElem_of_mem hq
  have := List.pairwise_iff_getElem.mp h.pasc
  simp only [List.length_map, List.getElem_map] at this
  rcases Nat.lt_trichotomy i j with h1 | rfl | h1
  · have := this i j hi hj h1; omega
  · rfl
  · have := this j i hj hi h1; omega
theorem where_ok (r : Rm) (h : r.Ok) (y : Int) (h0 : 0 ≤ y) (h1 : y < r.pages) : 0 ≤ r.whereS y ∧ r.whereS y < r.pages + r.spares ∧ ¬ r.whereS y ∈ r.bad ∧ r.ownerS (r.whereS y) = some y := by
  have hs := h.s1
  unfold Rm.whereS
  cases hf : r.places.find? fun p => p.pg == y with
  | none =>
    have hnb : ¬ y ∈ r.bad := fun hb => by
      obtain ⟨p, hp, e⟩ := List.mem_map.1 ((places_bad r h y h1).1 hb)
      rw [List.find?_eq_none] at hf
      exact hf p hp (by simp [e])
    refine ⟨h0, by show y < r.pages + r.spares; omega, hnb, ?_⟩
    show r.ownerS y = some y
    rw [Rm.ownerS, if_neg (fun e => e.elim (fun e => by omega) hnb), if_pos h1]
  | some p =>
    have hm := List.mem_of_find?_eq_some hf
    have he := List.find?_some hf
    have hr := h.prng p hm
    have hp1 := h.p1
    simp only [beq_iff_eq] at he
    refine ⟨by show 0 ≤ p.ad; omega, hr.2.2.2.2.1, hr.2.2.2.2.2, ?_⟩
    show r.ownerS p.ad = some y
    rw [Rm.ownerS, if_neg (fun e => e.elim (fun e => by omega) hr.2.2.2.2.2), if_neg (by omega)]
    cases hg : r.places.find? fun q => q.ad == p.ad with
    | none => rw [List.find?_eq_none] at hg; exact absurd (show (p.ad == p.ad) = true by simp) (hg p hm)
    | some q =>
      have hq := List.find?_some hg
      simp only [beq_iff_eq] at hq
      rw [ad_inj r h q p (List.mem_of_find?_eq_some hg) hm hq, Option.map_some, he]
theorem mem_freeS (r : Rm) (x : Int) (hx : x ∈ r.freeS) : r.pages ≤ x ∧ x < r.pages + r.spares ∧ ¬ x ∈ r.bad ∧ ¬ x ∈ r.places.map (·.ad) := by
  rw [Rm.freeS, Rm.freeN, List.mem_filter, List.mem_map] at hx
  obtain ⟨⟨k, hk, rfl⟩, h⟩ := hx
  rw [List.mem_range] at hk
  simp only [Bool.and_eq_true, Bool.not_eq_true', decide_eq_false_iff_not] at h
  exact ⟨by omega, by omega, h.2, h.1⟩
end Go.Proofs.Ytnilcppifcekmaa
namespace Go.Proofs.Ytnilcppifcekmaa
open Go.V Go
theorem own_ins (l : List Int) (a k : Int) : ((insB l a).filter fun x => decide (x < k)).length = (l.filter fun x => decide (x < k)).length + if a < k then 1 else 0 := by
  have : (l.filter fun x => decide (x < k)).length = ((l.take (lo l fun x => decide (x < a)) ++ l.drop (lo l fun x => decide (x < a))).filter fun x => decide (x < k)).length := by rw [List.take_append_drop]
  rw [this, insB, List.filter_append, List.filter_append, List.length_append, List.length_append, List.filter_cons]
  by_cases h : a < k
  · simp only [h, decide_true, if_true, List.length_cons]; omega
  · simp only [h, decide_false, Bool.false_eq_true, if_false]; omega
theorem nodup_map {α : Type} (l : List α) (f : α → Int) (h : l.Nodup) (hi : ∀ p ∈ l, ∀ q ∈ l, f p = f q → p = q) : (l.map f).Nodup := by
  rw [List.Nodup, List.pairwise_map]
  exact h.imp_of_mem fun {a b} ha hb hne e => hne (hi a ha b hb e)
theorem nodup_of_map {α : Type} (l : List α) (f : α → Int) (h : (l.map f).Nodup) : l.Nodup := by
  rw [List.Nodup, List.pairwise_map] at h
  exact h.imp fun {a b} hne e => hne (by rw [e])
theorem ok_unused (r : Rm) (h : r.Ok) (a : Int) (h0 : 0 ≤ a) (h1 : a < r.pages + r.spares) (hb : ¬ a ∈ r.bad) (ho : r.ownerS a = none) : ({ r with bad := insB r.bad a } : Rm).Ok := by
  have hge : ¬ a < r.pages := fun hlt => by
    rw [Rm.ownerS, if_neg (fun e => e.elim (fun e => by omega) hb), if_pos hlt] at ho
    cases ho
  rw [Rm.ownerS, if_neg (fun e => e.elim (fun e => by omega) hb), if_neg hge] at ho
  have hno : ∀ p ∈ r.places, p.ad ≠ a := fun p hp e => by
    cases hf : r.places.find? fun p => p.ad == a with
    | none => rw [List.find?_eq_none] at hf; exact hf p hp (by simp [e])
    | some q => rw [hf] at ho; cases ho
  refine ⟨h.p1, h.p2, h.s1, h.s2, h.s3, insB_asc _ h.basc a hb, fun x hx => ?_, h.pasc, fun p hp => ?_, h.adnd, ?_⟩
  · rcases (mem_insB r.bad a x).1 hx with rfl | hx
    · exact ⟨h0, h1⟩
    · exact h.brng x hx
  · obtain ⟨a1, a2, a3, a4, a5, a6⟩ := h.prng p hp
    exact ⟨a1, a2, (mem_insB _ _ _).2 (.inr a3), a4, a5, fun e => ((mem_insB _ _ _).1 e).elim (hno p hp) a6⟩
  · have := own_ins r.bad a r.pages
    rw [if_neg hge] at this
    show ((insB r.bad a).filter fun x => decide (x < r.pages)).length = r.places.length
    rw [this, h.own]; rfl
theorem ok_moved (r : Rm) (h : r.Ok) (a n f : Int) (h0 : 0 ≤ a) (h1 : a < r.pages + r.spares) (hb : ¬ a ∈ r.bad) (ho : r.ownerS a = some n) (hf : f ∈ r.freeS) : (⟨r.pages, r.spares, setP r.places n f, insB r.bad a⟩ : Rm).Ok := by
  obtain ⟨f1, f2, f3, f4⟩ := mem_freeS r f hf
  have hfa : ∀ p ∈ r.places, p.ad ≠ f := fun p hp e => f4 (List.mem_map.2 ⟨p, hp, e⟩)
  have hn := owner_rng r h a n ho
  rw [Rm.ownerS, if_neg (fun e => e.elim (fun e => by omega) hb)] at ho
  -- what is known of the page that moves
  have key : n ∈ insB r.bad a ∧ f ≠ a ∧ (∀ p ∈ r.places, p.pg ≠ n → p.ad ≠ a) ∧ (setP r.places n f).length = r.places.length + (if a < r.pages then 1 else 0) := by
    by_cases hlt : a < r.pages
    · rw [if_pos hlt] at ho
      cases ho
      have hnf : ¬ pfound r.places a = true := fun e => by
        obtain ⟨hi, he⟩ := pfound_at _ _ e
        exact hb ((places_bad r h a hlt).2 (List.mem_map.2 ⟨_, List.getElem_mem hi, he⟩))
      refine ⟨(mem_insB _ _ _).2 (.inl rfl), by omega, fun p hp _ => ?_, ?_⟩
      · have := h.prng p hp; omega
      · rw [setP_len, if_neg hnf, if_pos hlt]
    · rw [if_neg hlt] at ho
      cases hq : r.places.find? fun p => p.ad == a with
      | none => rw [hq] at ho; cases ho
      | some q =>
        have hqm := List.mem_of_find?_eq_some hq
        have hqa := List.find?_some hq
        simp only [beq_iff_eq] at hqa
        rw [hq] at ho
        cases ho
        have hfd : pfound r.places q.pg = true := Classical.byContradiction fun e => pfound_not r.places h.pasc q.pg e q hqm rfl
        refine ⟨(mem_insB _ _ _).2 (.inr (h.prng q hqm).2.2.1), fun e => hfa q hqm (by omega), fun p hp hne e => hne (by rw [ad_inj r h p q hp hqm (by omega)]), ?_⟩
        rw [setP_len, if_pos hfd, if_neg hlt]; rfl
  obtain ⟨k1, k2, k3, k4⟩ := key
  have hasc : ((setP r.places n f).map (·.pg)).Pairwise (· < ·) := by
    rw [setP_pgs]
    split
    · exact h.pasc
    · rename_i hnf
      exact insB_asc _ h.pasc n fun hm => by
        obtain ⟨p, hp, e⟩ := List.mem_map.1 hm
        exact pfound_not r.places h.pasc n hnf p hp e
  have hmem := mem_setP r.places h.pasc n f
  refine ⟨h.p1, h.p2, h.s1, h.s2, h.s3, insB_asc _ h.basc a hb, fun x hx => ?_, hasc, fun p hp => ?_, ?_, ?_⟩
  · rcases (mem_insB r.bad a x).1 hx with rfl | hx
    · exact ⟨h0, h1⟩
    · exact h.brng x hx
  · rcases (hmem p).1 hp with rfl | ⟨hp, hne⟩
    · exact ⟨hn.1, hn.2, k1, f1, f2, fun e => ((mem_insB _ _ _).1 e).elim k2 f3⟩
    · obtain ⟨a1, a2, a3, a4, a5, a6⟩ := h.prng p hp
      exact ⟨a1, a2, (mem_insB _ _ _).2 (.inr a3), a4, a5, fun e => ((mem_insB _ _ _).1 e).elim (k3 p hp hne) a6⟩
  · refine nodup_map _ _ (nodup_of_map _ _ (asc_nd _ hasc)) fun p hp q hq e => ?_
    rcases (hmem p).1 hp with rfl | ⟨hp, hne⟩ <;> rcases (hmem q).1 hq with rfl | ⟨hq, hnq⟩
    · rfl
    · exact absurd e.symm (hfa q hq)
    · exact absurd e (hfa p hp)
    · exact ad_inj r h p q hp hq e
  · have := own_ins r.bad a r.pages
    show ((insB r.bad a).filter fun x => decide (x < r.pages)).length = (setP r.places n f).length
    rw [this, h.own, k4]
theorem mark_law (r : Rm) (h : r.Ok) (a : Int) (h0 : 0 ≤ a) (h1 : a < r.pages + r.spares) :
    (r.markS a = (Rm0, 0, 47) ∧ (∃ n, r.ownerS a = some n) ∧ r.freeS = []) ∨
    (∃ r', r.markS a = (r', (r.ownerS a).getD (-1), 0) ∧ r'.Ok ∧ a ∈ r'.bad ∧ r'.pages = r.pages ∧ r'.spares = r.spares ∧ r'.places.length ≤ r.places.length + 1 ∧ r'.bad.length ≤ r.bad.length + 1) := by
  rw [Rm.markS, if_pos ((ok_iff r).2 h), if_neg (by omega)]
  by_cases hb : a ∈ r.bad
  · rw [if_pos hb]
    refine .inr ⟨r, ?_, h, hb, rfl, rfl, by omega, by omega⟩
    rw [Rm.ownerS, if_pos (.inr hb)]; rfl
  · rw [if_neg hb]
    cases ho : r.ownerS a with
    | none => exact .inr ⟨_, rfl, ok_unused r h a h0 h1 hb ho, (mem_insB _ _ _).2 (.inl rfl), rfl, rfl, Nat.le_succ _, by simp only [insB_len]; omega⟩
    | some n =>
      cases hf : r.freeS with
      | nil => exact .inl ⟨rfl, ⟨n, rfl⟩, rfl⟩
      | cons f fs =>
        refine .inr ⟨_, rfl, ok_moved r h a n f h0 h1 hb ho (by rw [hf]; simp), (mem_insB _ _ _).2 (.inl rfl), rfl, rfl, ?_, by simp only [insB_len]; omega⟩
        simp only [setP_len]
        split <;> omega
theorem ok_sm (r : Rm) (h : r.Ok) : r.sm := by
  have hl : r.bad.length ≤ ((List.range 64).map fun i : Nat => (i : Int)).length := nodup_sub_len _ _ (asc_nd _ h.basc) fun x hx => by
    have := h.brng x hx
    have := h.s3
    exact List.mem_map.2 ⟨x.toNat, by rw [List.mem_range]; omega, by omega⟩
  have hp : (r.places.map (·.pg)).length ≤ ((List.range 64).map fun i : Nat => (i : Int)).length := nodup_sub_len _ _ (asc_nd _ h.pasc) fun x hx => by
    obtain ⟨p, hp, rfl⟩ := List.mem_map.1 hx
    have := h.prng p hp
    have := h.p2
    exact List.mem_map.2 ⟨p.pg.toNat, by rw [List.mem_range]; omega, by omega⟩
  simp only [List.length_map, List.length_range] at hl hp
  exact ⟨by omega, by omega⟩
end Go.Proofs.Ytnilcppifcekmaa
namespace Go.Proofs.Ytnilcppifcekmaa
open Go.V Go
structure AgB (i : Nat) (B : List Int) : Prop where
  asc : B.Pairwise (· < ·)
  rng : ∀ x ∈ B, 4 ≤ x ∧ x < 4 + i
end Go.Proofs.Ytnilcppifcekmaa
