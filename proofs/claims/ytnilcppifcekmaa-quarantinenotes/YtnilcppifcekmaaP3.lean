/-
  Contracts of functions and plain laws. No condition.
-/
import Derived.Test.YtnilcppifcekmaaP2
import Derived.Test.YtnilcppifcekmaaV3
import Derived.Test.YtnilcppifcekmaaP1
set_option linter.unusedSimpArgs false
set_option linter.unusedVariables false
set_option maxRecDepth 100000
set_option maxHeartbeats 8000000
namespace Go.Proofs.Ytnilcppifcekmaa
open Go.V Go
theorem lenN (l : List Int) : (cells encI l).length = l.length * 1 := cells_len encI l
theorem allN (l : List Int) (n : Nat) (h : l.length * 1 ≤ n) : (cells encI l).take n = cells encI l := by rw [List.take_of_length_le]; rw [lenN]; exact h
theorem appN (l m : List Int) : cells encI l ++ cells encI m = cells encI (l ++ m) := (cells_app encI l m).symm
theorem slkN (l : List Int) (T : TypeId) (a b : Nat) (h : a ≤ b ∧ b ≤ l.length) : vslk (some (none, T, 1)) (fz encI l) a b = some (.pv (.sl (fz encI ((l.take b).drop a)))) := vslk_fz encI l T a b h
theorem srcN (l : List Int) : (fz encI l = [] ∨ (fz encI l)[0]?.map List.length = some 1) = True := fz_src encI l
theorem app1P (l : List Pl) (x : Pl) : cells encP l ++ [.pv (.lit (.int .i64 x.pg)), .pv (.lit (.int .i64 x.ad))] = cells encP (l ++ [x]) := by rw [cells_app]; rfl
theorem app1N (l : List Int) (x : Int) : cells encI l ++ [.pv (.lit (.int .i64 x))] = cells encI (l ++ [x]) := by rw [cells_app]; rfl
theorem rhas_v (l : List Int) (hl : l.length ≤ 1000) (y : Int) : VCalls Try.prog 42 [.pv (.sl (fz encI l)), .int .i64 y] [] (Ret (.bool (decide (y ∈ l)))) := by
  refine dd Try.func42 ?_
  simp (config := { maxSteps := 2000000 }) (implicitDefEqProofs := false) (disch := first | omega | assumption | (simp only []; done) | fail) only [vop_assign, vcallee_assign, strip_pv, optV_none, ev_const, ofConst_int, ofConst_bool, put_some, at_mk, fits_some, guard_none, ↓vrun_nil, ↓code_region, ↓code_seq, ↓code_block, ↓code_loop, ↓onNormal_normal, enum_nil, enum_cons, evG_eq, ↓vrun_cons, ↓run1_some, ↓runG_true, ↓run2_none, ↓run3_some, List.toList_toArray, List.length_nil, Nat.reduceAdd, Nat.reduceLT, Int.reduceLT, Int.reduceAdd, Nat.zero_add, true_and, Bool.true_and, dec_t, Try.f42]
  refine vloopW (fun s : {i : Nat // i ≤ l.length ∧ ¬ y ∈ l.take i} => ⟨18, 0, [(5, .int .i64 s.1), (1, .int .i64 y), (0, .pv (.sl (fz encI l)))], []⟩) (fun s => l.length - s.1) ⟨0, Nat.zero_le _, by simp⟩ (.inl (by refine ⟨rfl, rfl, by simp, ?_, ?_, .inr ⟨?_, ?_⟩⟩ <;> (repeat' apply And.intro) <;> first | rfl | trivial | (intro _; first | rfl | apply cells_refs))) ?_
  rintro ⟨i, hi, hn⟩
  dsimp only
  have hg := fun h : i < l.length => fzI_get l i h
  have hd := fun h : i < l.length => getD_eqQ l i h 0
  (try simp (config := { maxSteps := 2000000 }) (implicitDefEqProofs := false) (disch := first | omega | assumption | (simp only []; done) | fail) only [vop_move, vcallee_move, vop_binOp, vcallee_binOp, vop_builtin, vcallee_builtin, bin2_tmp, strip_pv, optV_none, ev_tmp, put_some, at_mk, fits_some, ↓look_cons, ↓vlook_t, ↓vlook_f, guard_none, ↓vrun_nil, ↓code_region, ↓code_seq, ↓onNormal_normal, bin_int, int_lss, len_sl, vlk_sl, bi_len, evG_eq, ↓vrun_cons, ↓run1_some, ↓runG_true, ↓run2_none, ↓run3_some, ↓code_cond, ↓vtest_bool, at_hp, List.map_nil, List.map_cons, List.map_nil, Option.map_some, Nat.reduceLT, Nat.reduceBEq, Int.reduceLT, Int.reduceBEq, true_and, Bool.true_and, beq_self_eq_true, fz_len, Try.vkind32, dec_t])
  repeat' (first
    | (refine vrunG_split (fun hZ => ?_) (fun hZ => ?_) <;> (try rw [hZ]) <;> (try simp only [decide_eq_true_eq, decide_eq_false_iff_not, Bool.or_eq_true, Bool.and_eq_true, Bool.or_eq_false_iff, Bool.and_eq_false_imp, Bool.not_eq_true', Bool.not_eq_false', beq_iff_eq, beq_eq_false_iff_ne, bne_iff_ne, bne_eq_false_iff_eq, ne_eq, Bool.not_eq_eq_eq_not, Bool.not_true, Bool.not_false] at hZ) <;> (try (first | rw [(hZ : _ = false)] | rw [(hZ : _ = true)])) <;> skip)
    | (refine vbr_split (fun hZ => ?_) (fun hZ => ?_) <;> (try rw [hZ]) <;> (try simp only [decide_eq_true_eq, decide_eq_false_iff_not, Bool.or_eq_true, Bool.and_eq_true, Bool.or_eq_false_iff, Bool.and_eq_false_imp, Bool.not_eq_true', Bool.not_eq_false', beq_iff_eq, beq_eq_false_iff_ne, bne_iff_ne, bne_eq_false_iff_eq, ne_eq, Bool.not_eq_eq_eq_not, Bool.not_true, Bool.not_false] at hZ) <;> (try (first | rw [(hZ : _ = false)] | rw [(hZ : _ = true)])) <;> (try simp (config := { maxSteps := 2000000 }) (implicitDefEqProofs := false) (disch := first | omega | assumption | (simp only [List.length_cons, List.length_nil, Nat.zero_add]; done) | fail) only [vop_move, vcallee_move, vop_assign, vcallee_assign, vop_load, vcallee_load, vop_binOp, vcallee_binOp, vop_indexAddr, vcallee_indexAddr, bin2_tmp, bin2_int, strip_pv, strip_ip, optV_none, ev_tmp, ev_const, ofConst_int, ofConst_bool, put_some, at_mk, fits_some, ↓look_cons, ↓vlook_t, ↓vlook_f, guard_none, ↓vrun_nil, ↓code_skip, ↓code_region, ↓code_seq, ↓code_block, ↓code_exit, ↓code_ret, ↓onNormal_normal, ↓onNormal_ret, ↓onNormal_exit, ↓onBlock_normal, ↓onBlock_ret, ↓onBlock_exit, frz_pv, frzHeap_zero, res_one, vres_tmp, load_ip, vldp_one, iaddr_sl, vias_some, bin_int, int_add, int_eql, evG_eq, ↓vrun_cons, ↓run1_some, ↓runG_true, ↓run2_none, ↓run3_some, ↓code_cond, ↓vtest_bool, ↓vpost_ret, vfin_some, vfin2_some, at_hp, List.getElem?_cons_zero, Option.map_some, ↓reduceIte, Nat.reduceLT, Nat.reduceBEq, Int.reduceLT, Int.reduceBEq, Int.toNat_natCast, true_and, Bool.true_and, beq_self_eq_true, Try.vt3, Try.velem32, wrap_i64_in, dec_t, Ret, DV.nums, hg]))
    | (refine vdrG_split (fun hZ => ?_) (fun hZ => ?_) <;> (try rw [hZ]) <;> (try simp only [decide_eq_true_eq, decide_eq_false_iff_not, Bool.or_eq_true, Bool.and_eq_true, Bool.or_eq_false_iff, Bool.and_eq_false_imp, Bool.not_eq_true', Bool.not_eq_false', beq_iff_eq, beq_eq_false_iff_ne, bne_iff_ne, bne_eq_false_iff_eq, ne_eq, Bool.not_eq_eq_eq_not, Bool.not_true, Bool.not_false] at hZ) <;> (try (first | rw [(hZ : _ = false)] | rw [(hZ : _ = true)])) <;> skip))
  · rw [hd (by omega)] at hZ
    rw [decide_eq_true (show y ∈ l from hZ ▸ List.getElem_mem _)]
  · refine ⟨⟨i + 1, by omega, fun hm => ?_⟩, by show l.length - (i + 1) < l.length - i; omega, (by refine gc_of (keep := []) rfl rfl rfl (by decide) ?_ ?_ <;> (repeat' apply And.intro) <;> first | trivial | rfl | exact ⟨_, rfl, rfl, rfl, .inl ⟨rfl, rfl⟩⟩ | exact ⟨_, rfl, rfl, rfl, .inl ⟨cells_nums _ _ _, rfl⟩⟩ | exact ⟨_, rfl, rfl, rfl, .inl ⟨pvs_nums _ _, rfl⟩⟩ | exact ⟨_, rfl, rfl, rfl, .inr ⟨rfl, rfl⟩⟩)⟩
    rw [List.take_succ_eq_append_getElem (by omega), List.mem_append, List.mem_singleton] at hm
    rw [hd (by omega)] at hZ
    rcases hm with hm | hm
    · exact hn hm
    · exact hZ hm.symm
  · rw [List.take_of_length_le (by omega)] at hn
    rw [decide_eq_false hn]
theorem qrvalid_v (r : Rm) (hs : r.sm) : VCalls Try.prog 41 [.agg r.d] [] (Ret (.bool r.okB)) := by
  refine dd Try.func41 ?_
  obtain ⟨pages, spares, places, bad⟩ := r
  obtain ⟨hs1, hs2⟩ := hs
  dsimp only at hs1 hs2
  obtain ⟨R, hR⟩ : ∃ R : Rm, R = ⟨pages, spares, places, bad⟩ := ⟨_, rfl⟩
  have okE : R.okB = (R.headB && (List.range bad.length).all R.chkB && (List.range places.length).all R.chkP && (R.own bad.length == places.length)) := by subst hR; rfl
  have hdE : R.headB = (decide (1 ≤ pages) && decide (pages ≤ 64) && decide (0 ≤ spares) && decide (spares ≤ 16) && decide (pages + spares ≤ 64)) := by subst hR; rfl
  have cbE : ∀ i, R.chkB i = (decide (0 ≤ bad.getD i 0) && decide (bad.getD i 0 < pages + spares) && (decide (i = 0) || decide (bad.getD (i - 1) 0 < bad.getD i 0))) := fun i => by subst hR; rfl
  have cpE : ∀ i, R.chkP i = (decide (0 ≤ (places.getD i P0).pg) && decide ((places.getD i P0).pg < pages) && (decide (i = 0) || decide ((places.getD (i - 1) P0).pg < (places.getD i P0).pg)) &&
      decide ((places.getD i P0).pg ∈ bad) && decide (pages ≤ (places.getD i P0).ad) && decide ((places.getD i P0).ad < pages + spares) && !decide ((places.getD i P0).ad ∈ bad) &&
      !decide ((places.getD i P0).ad ∈ (places.take i).map (·.ad))) := fun i => by subst hR; rfl
  have hos : ∀ i, i < bad.length → R.own (i + 1) = R.own i + (if bad.getD i 0 < pages then 1 else 0) := fun i h => by subst hR; exact own_succ ⟨pages, spares, places, bad⟩ i h
  have ho0 : R.own 0 = 0 := by subst hR; rfl
  have hol : ∀ i, R.own i ≤ i := fun i => own_le R i
  rw [← hR]
  have no1 : ¬ R.headB = true → DV.bool false = DV.bool R.okB := fun h => by rw [okE, Bool.eq_false_iff.2 h]; rfl
  have no2 : ∀ i, i < bad.length → ¬ R.chkB i = true → DV.bool false = DV.bool R.okB := fun i hi h => by rw [okE, all_notQ hi (Bool.eq_false_iff.2 h)]; simp
  have no3 : ∀ i, i < places.length → ¬ R.chkP i = true → DV.bool false = DV.bool R.okB := fun i hi h => by rw [okE, all_notQ hi (Bool.eq_false_iff.2 h)]; simp
  have hcell : (Rm.d R) = [.int .i64 pages, .int .i64 spares, .pv (.sl (fz encP places)), .pv (.sl (fz encI bad))] := by subst hR; rfl
  rw [hcell]
  clear hR hcell
  simp (config := { maxSteps := 2000000 }) (implicitDefEqProofs := false) (disch := first | omega | assumption | (simp only []; done) | fail) only [vop_move, vcallee_move, vop_assign, vcallee_assign, vop_box, vcallee_box, vop_load, vcallee_load, vop_binOp, vcallee_binOp, vop_fieldAddr, vcallee_fieldAddr, bin2_int, strip_pv, strip_ptr, strip_agg, optV_none, ev_tmp, ev_const, ofConst_int, ofConst_bool, put_some, at_mk, fits_some, ↓look_cons, ↓vlook_t, ↓vlook_f, guard_none, guard_some, vgof_bool, ↓vrun_nil, ↓code_region, ↓code_seq, ↓onNormal_normal, load_ptr, vld_one, blk_zero, box_eq, allOne_nil, allOne_cons, one_pv, faddr_ptr, vfap_some, bin_int, int_lss, enum_nil, enum_cons, evG_eq, ↓vrun_cons, ↓run1_some, ↓runG_true, ↓run2_none, ↓run3_some, at_hp, dcells, List.toList_toArray, List.getElem?_cons_zero, List.getElem?_cons_succ, List.length_nil, List.nil_append, Option.map_some, Option.bind_some, ↓reduceIte, reduceCtorEq, Nat.reduceLT, Nat.reduceBEq, Int.reduceLT, Int.reduceBEq, Nat.zero_add, Nat.add_zero, true_and, and_self, Bool.true_and, Bool.and_self, b_beq_f, beq_self_eq_true, Try.vt3, Try.vfield34x0, dec_t, Try.f41]
  skip
  repeat' (first
    | (refine vrunG_split (fun hZ => ?_) (fun hZ => ?_) <;> (try rw [hZ]) <;> (try simp only [decide_eq_true_eq, decide_eq_false_iff_not, Bool.or_eq_true, Bool.and_eq_true, Bool.or_eq_false_iff, Bool.and_eq_false_imp, Bool.not_eq_true', Bool.not_eq_false', beq_iff_eq, beq_eq_false_iff_ne, bne_iff_ne, bne_eq_false_iff_eq, ne_eq, Bool.not_eq_eq_eq_not, Bool.not_true, Bool.not_false] at hZ) <;> (try (first | rw [(hZ : _ = false)] | rw [(hZ : _ = true)])) <;> (try simp (config := { maxSteps := 2000000 }) (implicitDefEqProofs := false) (disch := first | omega | assumption | (simp only []; done) | fail) only [vop_move, vcallee_move, vop_assign, vcallee_assign, vop_pick, vcallee_pick, vop_load, vcallee_load, vop_binOp, vcallee_binOp, vop_fieldAddr, vcallee_fieldAddr, bin2_tmp, bin2_int, vpick_bool, strip_pv, strip_ptr, strip_tup, strip_opt, vstr_true, optV_none, optV_some, pickV_bool, ev_tmp, ev_const, ofConst_int, ofConst_bool, put_some, at_mk, fits_some, ↓look_cons, ↓vlook_t, ↓vlook_f, guard_none, guard_some, vgof_bool, ↓vrun_nil, ↓code_region, ↓code_seq, ↓code_ret, ↓onNormal_normal, ↓onNormal_ret, frz_pv, frzHeap_zero, res_one, vres_tmp, load_ptr, vld_one, blk_zero, faddr_ptr, vfap_some, bin_int, int_add, int_lss, int_gtr, evG_eq, ↓vrun_cons, ↓run1_some, ↓runG_true, ↓runG_false, ↓run2_none, ↓run3_some, ↓code_cond, ↓vtest_bool, ↓vbr_true, ↓vpost_ret, vfin_some, vfin2_some, at_hp, pickV_t, List.getElem?_cons_zero, List.getElem?_cons_succ, Option.map_some, Option.bind_some, ↓reduceIte, reduceCtorEq, Nat.reduceLT, Nat.reduceBEq, Int.reduceLT, Int.reduceBEq, Nat.zero_add, Nat.add_zero, true_and, or_true, Bool.not_true, Bool.not_false, Bool.or_true, Bool.true_and, b_beq_f, cond_false, beq_self_eq_true, Try.vt3, Try.vfield34x0, Try.vfield34x1, wrap_i64_in, dec_t, dec_f, Ret, DV.nums]))
    | (refine vbr_split (fun hZ => ?_) (fun hZ => ?_) <;> (try rw [hZ]) <;> (try simp only [decide_eq_true_eq, decide_eq_false_iff_not, Bool.or_eq_true, Bool.and_eq_true, Bool.or_eq_false_iff, Bool.and_eq_false_imp, Bool.not_eq_true', Bool.not_eq_false', beq_iff_eq, beq_eq_false_iff_ne, bne_iff_ne, bne_eq_false_iff_eq, ne_eq, Bool.not_eq_eq_eq_not, Bool.not_true, Bool.not_false] at hZ) <;> (try (first | rw [(hZ : _ = false)] | rw [(hZ : _ = true)])) <;> (try simp (config := { maxSteps := 2000000 }) (implicitDefEqProofs := false) (disch := first | omega | assumption | (simp only []; done) | fail) only [vop_assign, vcallee_assign, strip_pv, optV_none, ev_const, ofConst_int, ofConst_bool, put_some, at_mk, fits_some, ↓look_cons, ↓vlook_t, guard_none, ↓vrun_nil, ↓code_skip, ↓code_region, ↓code_seq, ↓code_block, ↓code_loop, ↓code_ret, ↓onNormal_normal, ↓onNormal_ret, frz_pv, frzHeap_zero, res_one, vres_tmp, evG_eq, ↓vrun_cons, ↓run1_some, ↓runG_true, ↓run2_none, ↓run3_some, ↓vpost_ret, vfin_some, vfin2_some, at_hp, Nat.reduceLT, Int.reduceLT, true_and, Bool.true_and, beq_self_eq_true, dec_t, Ret, DV.nums]))
    | (refine vdrG_split (fun hZ => ?_) (fun hZ => ?_) <;> (try rw [hZ]) <;> (try simp only [decide_eq_true_eq, decide_eq_false_iff_not, Bool.or_eq_true, Bool.and_eq_true, Bool.or_eq_false_iff, Bool.and_eq_false_imp, Bool.not_eq_true', Bool.not_eq_false', beq_iff_eq, beq_eq_false_iff_ne, bne_iff_ne, bne_eq_false_iff_eq, ne_eq, Bool.not_eq_eq_eq_not, Bool.not_true, Bool.not_false] at hZ) <;> (try (first | rw [(hZ : _ = false)] | rw [(hZ : _ = true)])) <;> skip))
  all_goals first
    | (exact no1 (by rw [hdE]; simp only [Bool.and_eq_true, decide_eq_true_eq]; omega))
    | skip
  have hhd : R.headB = true := by rw [hdE]; simp only [Bool.and_eq_true, decide_eq_true_eq]; omega
  have hpg : 1 ≤ pages ∧ pages ≤ 64 ∧ 0 ≤ spares ∧ spares ≤ 16 ∧ pages + spares ≤ 64 := ⟨by omega, by omega, by omega, by omega, by omega⟩
  refine vloopW (fun s : OkayQ bad.length R.chkB => ⟨177, 0, [(4, .int .i64 s.i), (3, .int .i64 (R.own s.i)), (1, .ptr 0 0)], [⟨34, true, [.int .i64 pages, .int .i64 spares, .pv (.sl (fz encP places)), .pv (.sl (fz encI bad))]⟩]⟩) (fun s => bad.length - s.i) (OkayQ.start _ _) (.inl ?_) ?_
  · rw [show (OkayQ.start bad.length R.chkB).i = 0 from rfl, ho0]
    exact (by refine ⟨rfl, rfl, by simp, ?_, ?_, .inr ⟨?_, ?_⟩⟩ <;> (repeat' apply And.intro) <;> first | rfl | trivial | (intro _; first | rfl | apply cells_refs))
  intro s
  have hi := s.hi
  have hg := fun h : s.i < bad.length => fzI_get bad s.i h
  have hgp : 0 < (s.i : Int) → (s.i : Int) < bad.length → (fz encI bad)[((s.i : Int) - 1).toNat]? = some [.lit (.int .i64 (bad.getD (s.i - 1) 0))] := fun h h2 => by
    rw [show ((s.i : Int) - 1).toNat = s.i - 1 by omega]; exact fzI_get bad (s.i - 1) (by omega)
  have hos' := hos s.i
  have hol' := hol s.i
  (try simp (config := { maxSteps := 2000000 }) (implicitDefEqProofs := false) (disch := first | omega | assumption | (simp only []; done) | fail) only [vop_move, vcallee_move, vop_load, vcallee_load, vop_binOp, vcallee_binOp, vop_fieldAddr, vcallee_fieldAddr, vop_builtin, vcallee_builtin, bin2_tmp, strip_pv, strip_ptr, optV_none, ev_tmp, put_some, at_mk, fits_some, ↓look_cons, ↓vlook_t, ↓vlook_f, guard_none, ↓vrun_nil, ↓code_region, ↓code_seq, ↓onNormal_normal, load_ptr, vld_one, blk_zero, faddr_ptr, vfap_some, bin_int, int_lss, len_sl, vlk_sl, bi_len, evG_eq, ↓vrun_cons, ↓run1_some, ↓runG_true, ↓run2_none, ↓run3_some, ↓code_cond, ↓vtest_bool, at_hp, List.map_nil, List.getElem?_cons_zero, List.getElem?_cons_succ, List.map_cons, List.map_nil, Option.map_some, ↓reduceIte, reduceCtorEq, Nat.reduceLT, Nat.reduceBEq, Int.reduceLT, Int.reduceBEq, Nat.zero_add, true_and, Bool.true_and, beq_self_eq_true, fz_len, Try.vt32, Try.vkind32, Try.vfield34x3, dec_t])
  repeat' (first
    | (refine vrunG_split (fun hZ => ?_) (fun hZ => ?_) <;> (try rw [hZ]) <;> (try simp only [decide_eq_true_eq, decide_eq_false_iff_not, Bool.or_eq_true, Bool.and_eq_true, Bool.or_eq_false_iff, Bool.and_eq_false_imp, Bool.not_eq_true', Bool.not_eq_false', beq_iff_eq, beq_eq_false_iff_ne, bne_iff_ne, bne_eq_false_iff_eq, ne_eq, Bool.not_eq_eq_eq_not, Bool.not_true, Bool.not_false] at hZ) <;> (try (first | rw [(hZ : _ = false)] | rw [(hZ : _ = true)])) <;> (try simp (config := { maxSteps := 2000000 }) (implicitDefEqProofs := false) (disch := first | omega | assumption | (simp only [List.length_cons, List.length_nil, Nat.zero_add]; done) | fail) only [vop_move, vcallee_move, vop_assign, vcallee_assign, vop_pick, vcallee_pick, vop_load, vcallee_load, vop_binOp, vcallee_binOp, vop_fieldAddr, vcallee_fieldAddr, vop_indexAddr, vcallee_indexAddr, bin2_tmp, bin2_int, vpick_bool, strip_pv, strip_ptr, strip_tup, strip_opt, vstr_true, optV_none, optV_some, pickV_bool, ev_tmp, ev_const, ofConst_int, ofConst_bool, put_some, at_mk, fits_some, ↓look_cons, ↓vlook_t, ↓vlook_f, guard_none, guard_some, vgof_bool, vgof_opt, vgof_skip, ↓vrun_nil, ↓code_skip, ↓code_region, ↓code_draw, ↓code_seq, ↓code_ret, ↓onNormal_normal, ↓onNormal_ret, ↓onBlock_ret, frz_pv, frzHeap_zero, res_one, vres_tmp, load_ptr, load_ip, vld_one, vldp_one, blk_zero, faddr_ptr, vfap_some, iaddr_sl, vias_some, bin_int, int_add, int_sub, int_gtr, int_geq, evG_eq, ↓vrun_cons, ↓run1_some, ↓runG_true, ↓runG_false, ↓run2_none, ↓run3_some, ↓code_cond, ↓vtest_bool, ↓vbr_true, ↓vbr_false, ↓vpost_ret, vfin_some, vfin2_some, at_hp, pickV_f, pickV_t, List.getElem?_cons_zero, List.getElem?_cons_succ, Option.map_some, Option.bind_some, ↓reduceIte, reduceCtorEq, Nat.reduceLT, Nat.reduceBEq, Int.reduceLT, Int.reduceBEq, Int.toNat_natCast, Nat.zero_add, Nat.add_zero, true_and, and_self, and_false, or_true, Bool.not_true, Bool.not_false, Bool.or_true, Bool.true_and, Bool.and_false, Bool.and_self, b_beq_t, b_beq_f, cond_true, cond_false, beq_self_eq_true, ↓vsp_nil, Try.vt3, Try.vt32, Try.velem32, Try.vfield34x0, Try.vfield34x1, Try.vfield34x3, wrap_i64_in, dec_t, dec_f, Ret, DV.nums, hg, hgp]))
    | (refine vbr_split (fun hZ => ?_) (fun hZ => ?_) <;> (try rw [hZ]) <;> (try simp only [decide_eq_true_eq, decide_eq_false_iff_not, Bool.or_eq_true, Bool.and_eq_true, Bool.or_eq_false_iff, Bool.and_eq_false_imp, Bool.not_eq_true', Bool.not_eq_false', beq_iff_eq, beq_eq_false_iff_ne, bne_iff_ne, bne_eq_false_iff_eq, ne_eq, Bool.not_eq_eq_eq_not, Bool.not_true, Bool.not_false] at hZ) <;> (try (first | rw [(hZ : _ = false)] | rw [(hZ : _ = true)])) <;> (try simp (config := { maxSteps := 2000000 }) (implicitDefEqProofs := false) (disch := first | omega | assumption | (simp only []; done) | fail) only [vop_move, vcallee_move, vop_assign, vcallee_assign, vop_binOp, vcallee_binOp, bin2_int, strip_pv, optV_none, ev_tmp, ev_const, ofConst_int, ofConst_bool, put_some, at_mk, fits_some, ↓look_cons, ↓vlook_t, ↓vlook_f, guard_none, ↓vrun_nil, ↓code_skip, ↓code_region, ↓code_draw, ↓code_seq, ↓code_block, ↓code_loop, ↓code_exit, ↓code_ret, ↓onNormal_normal, ↓onNormal_ret, ↓onNormal_exit, ↓onBlock_normal, ↓onBlock_ret, ↓onBlock_exit, frz_pv, frzHeap_zero, res_one, vres_tmp, bin_int, int_add, evG_eq, ↓vrun_cons, ↓run1_some, ↓runG_true, ↓run2_none, ↓run3_some, ↓vpost_ret, vfin_some, vfin2_some, at_hp, Option.map_some, ↓reduceIte, Nat.reduceLT, Nat.reduceBEq, Int.reduceLT, Int.reduceBEq, true_and, Bool.true_and, beq_self_eq_true, wrap_i64_in, dec_t, Ret, DV.nums]))
    | (refine vdrG_split (fun hZ => ?_) (fun hZ => ?_) <;> (try rw [hZ]) <;> (try simp only [decide_eq_true_eq, decide_eq_false_iff_not, Bool.or_eq_true, Bool.and_eq_true, Bool.or_eq_false_iff, Bool.and_eq_false_imp, Bool.not_eq_true', Bool.not_eq_false', beq_iff_eq, beq_eq_false_iff_ne, bne_iff_ne, bne_eq_false_iff_eq, ne_eq, Bool.not_eq_eq_eq_not, Bool.not_true, Bool.not_false] at hZ) <;> (try (first | rw [(hZ : _ = false)] | rw [(hZ : _ = true)])) <;> skip)
    | (refine vspine (id := 7) [0, 1, 2, 3, 4, 5, 6, 7, 8, 9, 10, 11, 12, 13, 14, 15, 16, 17, 18, 19, 20, 21, 22, 23, 24, 25, 26, 27, 28, 29, 30, 31, 32, 33, 34, 35, 36] [] (by kernel_rfl) (by kernel_rfl) ?_; (try simp (config := { maxSteps := 2000000 }) (implicitDefEqProofs := false) (disch := first | omega | assumption | (simp only [List.length_cons, List.length_nil, Nat.zero_add]; done) | fail) only [vop_move, vcallee_move, vop_load, vcallee_load, vop_binOp, vcallee_binOp, vop_fieldAddr, vcallee_fieldAddr, vop_indexAddr, vcallee_indexAddr, bin2_int, strip_pv, strip_ptr, strip_ip, optV_none, ev_tmp, ev_const, ofConst_int, put_some, at_mk, fits_some, ↓look_cons, ↓vlook_t, ↓vlook_f, guard_none, guard_some, vgof_bool, load_ptr, load_ip, vld_one, vldp_one, blk_zero, faddr_ptr, vfap_some, iaddr_sl, vias_some, bin_int, int_lss, evG_eq, ↓vrun_cons, ↓run1_some, ↓runG_true, ↓run2_none, ↓run3_some, at_hp, List.getElem?_cons_zero, List.getElem?_cons_succ, Option.map_some, Option.bind_some, ↓reduceIte, reduceCtorEq, Nat.reduceLT, Nat.reduceBEq, Int.reduceLT, Int.reduceBEq, Int.toNat_natCast, Nat.zero_add, true_and, Bool.true_and, b_beq_f, beq_self_eq_true, pick_nil, pick_cons, pickO_some, Try.vt3, Try.vt32, Try.velem32, Try.vfield34x3, dec_t, hg]))
    | (refine vspine (id := 9) [0, 1, 2, 3, 4, 5, 6, 7] [] (by kernel_rfl) (by kernel_rfl) ?_; (try simp (config := { maxSteps := 2000000 }) (implicitDefEqProofs := false) (disch := first | omega | assumption | (simp only [List.length_cons, List.length_nil, Nat.zero_add]; done) | fail) only [vop_move, vcallee_move, vop_load, vcallee_load, vop_binOp, vcallee_binOp, vop_fieldAddr, vcallee_fieldAddr, vop_indexAddr, vcallee_indexAddr, bin2_tmp, strip_pv, strip_ptr, strip_ip, optV_none, ev_tmp, put_some, at_mk, fits_some, ↓look_cons, ↓vlook_t, ↓vlook_f, guard_none, ↓vrun_nil, ↓onNormal_normal, load_ptr, load_ip, vld_one, vldp_one, blk_zero, faddr_ptr, vfap_some, iaddr_sl, vias_some, bin_int, int_lss, evG_eq, ↓vrun_cons, ↓run1_some, ↓runG_true, ↓run2_none, ↓run3_some, ↓code_cond, ↓vtest_bool, at_hp, List.getElem?_cons_zero, List.getElem?_cons_succ, Option.map_some, ↓reduceIte, reduceCtorEq, Nat.reduceLT, Nat.reduceBEq, Int.reduceLT, Int.reduceBEq, Int.toNat_natCast, Nat.zero_add, Nat.add_zero, true_and, Bool.true_and, beq_self_eq_true, ↓vsp_nil, pick_nil, pick_cons, pickO_some, Try.vt3, Try.vt32, Try.velem32, Try.vfield34x0, Try.vfield34x3, dec_t, hg])))
  all_goals first
    | (exact no2 s.i (by omega) (by rw [cbE]; simp only [Bool.and_eq_true, Bool.or_eq_true, decide_eq_true_eq]; omega))
    | (refine ⟨s.next (by omega) (by rw [cbE]; simp only [Bool.and_eq_true, Bool.or_eq_true, decide_eq_true_eq]; omega), by show bad.length - (s.i + 1) < bad.length - s.i; omega, ?_⟩
       show Weak _ ⟨177, 0, [(4, .int .i64 ((s.i + 1 : Nat) : Int)), (3, .int .i64 (R.own (s.i + 1))), (1, .ptr 0 0)], [⟨34, true, [.int .i64 pages, .int .i64 spares, .pv (.sl (fz encP places)), .pv (.sl (fz encI bad))]⟩]⟩
       rw [hos' (by omega)]
       first
         | (rw [if_pos (by omega)]; exact (by refine gc_of (keep := [0]) rfl rfl rfl (by decide) ?_ ?_ <;> (repeat' apply And.intro) <;> first | trivial | rfl | exact ⟨_, rfl, rfl, rfl, .inl ⟨rfl, rfl⟩⟩ | exact ⟨_, rfl, rfl, rfl, .inl ⟨cells_nums _ _ _, rfl⟩⟩ | exact ⟨_, rfl, rfl, rfl, .inl ⟨pvs_nums _ _, rfl⟩⟩ | exact ⟨_, rfl, rfl, rfl, .inr ⟨rfl, rfl⟩⟩))
         | (rw [if_neg (by omega), Nat.add_zero]; exact (by refine gc_of (keep := [0]) rfl rfl rfl (by decide) ?_ ?_ <;> (repeat' apply And.intro) <;> first | trivial | rfl | exact ⟨_, rfl, rfl, rfl, .inl ⟨rfl, rfl⟩⟩ | exact ⟨_, rfl, rfl, rfl, .inl ⟨cells_nums _ _ _, rfl⟩⟩ | exact ⟨_, rfl, rfl, rfl, .inl ⟨pvs_nums _ _, rfl⟩⟩ | exact ⟨_, rfl, rfl, rfl, .inr ⟨rfl, rfl⟩⟩)))
    | skip
  have hallB := s.all (by omega)
  have hin : s.i = bad.length := by omega
  rw [hin]
  refine vloopW (fun s : OkayQ places.length R.chkP => ⟨177, 0, [(5, .int .i64 s.i), (3, .int .i64 (R.own bad.length)), (1, .ptr 0 0)], [⟨34, true, [.int .i64 pages, .int .i64 spares, .pv (.sl (fz encP places)), .pv (.sl (fz encI bad))]⟩]⟩) (fun s => places.length - s.i) (OkayQ.start _ _) (.inl (by refine ⟨rfl, rfl, by simp, ?_, ?_, .inr ⟨?_, ?_⟩⟩ <;> (repeat' apply And.intro) <;> first | rfl | trivial | (intro _; first | rfl | apply cells_refs))) ?_
  clear hin hgp hg hi hos' hol'
  intro s
  have hi := s.hi
  have hg := fun h : s.i < places.length => fzP_at places s.i h
  have hgd := fun h : s.i < places.length => getD_eqQ places s.i h P0
  have hgp : 0 < (s.i : Int) → (s.i : Int) < places.length → (fz encP places)[((s.i : Int) - 1).toNat]? = some [.lit (.int .i64 (places.getD (s.i - 1) P0).pg), .lit (.int .i64 (places.getD (s.i - 1) P0).ad)] := fun h h2 => by
    rw [show ((s.i : Int) - 1).toNat = s.i - 1 by omega, getD_eqQ places (s.i - 1) (by omega)]; exact fzP_at places (s.i - 1) (by omega)
  have hb1 := fun h : s.i < places.length => rhas_v bad hs2 places[s.i].ad
  have hb2 := fun h : s.i < places.length => rhas_v bad hs2 places[s.i].pg
  (try simp (config := { maxSteps := 2000000 }) (implicitDefEqProofs := false) (disch := first | omega | assumption | (simp only []; done) | fail) only [vop_move, vcallee_move, vop_load, vcallee_load, vop_binOp, vcallee_binOp, vop_fieldAddr, vcallee_fieldAddr, vop_builtin, vcallee_builtin, bin2_tmp, strip_pv, strip_ptr, optV_none, ev_tmp, put_some, at_mk, fits_some, ↓look_cons, ↓vlook_t, ↓vlook_f, guard_none, ↓vrun_nil, ↓code_region, ↓code_seq, ↓onNormal_normal, load_ptr, vld_one, blk_zero, faddr_ptr, vfap_some, bin_int, int_lss, len_sl, vlk_sl, bi_len, evG_eq, ↓vrun_cons, ↓run1_some, ↓runG_true, ↓run2_none, ↓run3_some, ↓code_cond, ↓vtest_bool, at_hp, List.map_nil, List.getElem?_cons_zero, List.getElem?_cons_succ, List.map_cons, List.map_nil, Option.map_some, ↓reduceIte, reduceCtorEq, Nat.reduceLT, Nat.reduceBEq, Int.reduceLT, Int.reduceBEq, Nat.zero_add, true_and, Bool.true_and, beq_self_eq_true, fz_len, Try.vt31, Try.vkind31, Try.vfield34x2, dec_t])
  repeat' (first
    | (refine vrunG_split (fun hZ => ?_) (fun hZ => ?_) <;> (try rw [hZ]) <;> (try simp only [decide_eq_true_eq, decide_eq_false_iff_not, Bool.or_eq_true, Bool.and_eq_true, Bool.or_eq_false_iff, Bool.and_eq_false_imp, Bool.not_eq_true', Bool.not_eq_false', beq_iff_eq, beq_eq_false_iff_ne, bne_iff_ne, bne_eq_false_iff_eq, ne_eq, Bool.not_eq_eq_eq_not, Bool.not_true, Bool.not_false] at hZ) <;> (try (first | rw [(hZ : _ = false)] | rw [(hZ : _ = true)])) <;> (try simp (config := { maxSteps := 2000000 }) (implicitDefEqProofs := false) (disch := first | omega | assumption | (simp only [List.length_cons, List.length_nil, Nat.zero_add, Nat.reduceAdd]; done) | fail) only [vop_move, vcallee_move, vop_assign, vcallee_assign, vop_pick, vcallee_pick, vop_load, vcallee_load, vop_binOp, vcallee_binOp, vop_fieldAddr, vcallee_fieldAddr, vop_indexAddr, vcallee_indexAddr, vcallee_value, vcal_fn, bin2_tmp, bin2_int, vpick_bool, strip_pv, strip_ptr, strip_tup, strip_fn, strip_opt, vstr_true, optV_none, optV_some, pickV_bool, ev_tmp, ev_const, ev_func, ofConst_int, ofConst_bool, put_some, at_mk, fits_some, ↓look_cons, ↓vlook_t, ↓vlook_f, guard_none, guard_some, vgof_bool, vgof_opt, vgof_skip, ↓vrun_nil, ↓code_region, ↓code_seq, ↓code_ret, ↓onNormal_normal, ↓onNormal_ret, ↓onBlock_ret, frz_pv, frzHeap_zero, res_one, vres_tmp, load_ptr, load_ip, vld_one, vldp_one, blk_zero, blk_succ, faddr_ptr, vfap_some, faddr_ip, vfai_some, iaddr_sl, vias_some, bin_int, int_add, int_sub, int_lss, int_gtr, int_geq, evG_eq, ↓vrun_cons, ↓run1_some, ↓runG_true, ↓runG_false, ↓run2_none, ↓run2_some, ↓run3_some, ↓code_cond, ↓vtest_bool, ↓vbr_true, ↓vpost_ret, vfin_some, vfin2_some, at_hp, pickV_f, pickV_t, List.map_nil, List.getElem?_cons_zero, List.getElem?_cons_succ, List.map_cons, List.map_nil, List.nil_append, List.append_nil, List.drop_zero, Option.map_some, Option.bind_some, ↓reduceIte, reduceCtorEq, Nat.reduceLT, Nat.reduceBEq, Int.reduceLT, Int.reduceBEq, Nat.zero_add, Nat.add_zero, true_and, and_self, and_false, or_true, Bool.not_true, Bool.not_false, Bool.or_true, Bool.true_and, Bool.and_false, Bool.and_self, b_beq_t, b_beq_f, cond_true, cond_false, beq_self_eq_true, ↓vsp_nil, ↓vsp_cons, ↓vspK_eq, vspC_true, vspR_eq, pick_nil, pick_cons, pickO_some, creas_nil, agree_nil, Try.vt3, Try.vt31, Try.velem31, Try.vt32, Try.vfield34x0, Try.vfield34x1, Try.vfield34x2, Try.vfield34x3, Try.vfield61x0, Try.vfield61x1, wrap_i64_in, dec_t, dec_f, Ret, DV.nums, hgp]))
    | (refine vbr_split (fun hZ => ?_) (fun hZ => ?_) <;> (try rw [hZ]) <;> (try simp only [decide_eq_true_eq, decide_eq_false_iff_not, Bool.or_eq_true, Bool.and_eq_true, Bool.or_eq_false_iff, Bool.and_eq_false_imp, Bool.not_eq_true', Bool.not_eq_false', beq_iff_eq, beq_eq_false_iff_ne, bne_iff_ne, bne_eq_false_iff_eq, ne_eq, Bool.not_eq_eq_eq_not, Bool.not_true, Bool.not_false] at hZ) <;> (try (first | rw [(hZ : _ = false)] | rw [(hZ : _ = true)])) <;> (try simp (config := { maxSteps := 2000000 }) (implicitDefEqProofs := false) (disch := first | omega | assumption | (simp only [List.length_cons, List.length_nil, Nat.zero_add, Nat.reduceAdd]; done) | fail) only [vop_move, vcallee_move, vop_assign, vcallee_assign, vop_alloc, vcallee_alloc, vop_load, vcallee_load, vop_store, vcallee_store, vop_binOp, vcallee_binOp, vop_fieldAddr, vcallee_fieldAddr, vop_indexAddr, vcallee_indexAddr, vop_builtin, vcallee_builtin, bin2_tmp, strip_pv, strip_ptr, strip_ip, strip_agg, optV_none, ev_tmp, ev_const, ofConst_int, ofConst_bool, put_some, put_none, at_mk, fits_some, fits_none, ↓look_cons, ↓vlook_t, ↓vlook_f, guard_none, ↓vrun_nil, ↓code_skip, ↓code_region, ↓code_draw, ↓code_seq, ↓code_block, ↓code_loop, ↓code_exit, ↓code_ret, ↓onNormal_normal, ↓onNormal_ret, ↓onNormal_exit, ↓onBlock_ret, ↓onBlock_exit, frz_pv, frzHeap_zero, res_one, vres_tmp, load_ptr, load_ip, vld_one, vldp_agg, store_ptr, vst_agg, blk_zero, blk_succ, set_zero, set_succ, alloc_eq, val1_some, allOne_nil, allOne_cons, one_pv, faddr_ptr, vfap_some, iaddr_sl, vias_some, bin_int, int_eql, len_sl, vlk_sl, bi_len, evG_eq, ↓vrun_cons, ↓run1_some, ↓runG_true, ↓run2_none, ↓run3_some, ↓vpost_ret, vfin_some, vfin2_some, at_hp, List.map_nil, V.splice, List.getElem?_cons_zero, List.getElem?_cons_succ, List.length_cons, List.length_nil, List.map_cons, List.map_nil, List.cons_append, List.nil_append, List.append_nil, List.take_succ_cons, List.take_zero, List.take_nil, List.drop_succ_cons, List.drop_nil, Option.map_some, ↓reduceIte, reduceCtorEq, Nat.reduceAdd, Nat.reduceLT, Nat.reduceBEq, Int.reduceLT, Int.reduceAdd, Int.reduceBEq, Int.toNat_natCast, Nat.zero_add, true_and, and_self, Bool.true_and, Bool.and_self, beq_self_eq_true, Nat.le_refl, fz_len, Try.vt31, Try.velem31, Try.vkind31, Try.vfield34x2, Try.vt61, Try.vzero61, dec_t, dec_f, Ret, DV.nums, hg]))
    | (refine vdrG_split (fun hZ => ?_) (fun hZ => ?_) <;> (try rw [hZ]) <;> (try simp only [decide_eq_true_eq, decide_eq_false_iff_not, Bool.or_eq_true, Bool.and_eq_true, Bool.or_eq_false_iff, Bool.and_eq_false_imp, Bool.not_eq_true', Bool.not_eq_false', beq_iff_eq, beq_eq_false_iff_ne, bne_iff_ne, bne_eq_false_iff_eq, ne_eq, Bool.not_eq_eq_eq_not, Bool.not_true, Bool.not_false] at hZ) <;> (try (first | rw [(hZ : _ = false)] | rw [(hZ : _ = true)])) <;> skip)
    | (refine vc_pure (hb1 (by omega)) rfl ?_; (try simp (config := { maxSteps := 2000000 }) (implicitDefEqProofs := false) (disch := first | omega | assumption | (simp only []; done) | fail) only [vop_move, vcallee_move, vop_pick, vcallee_pick, vpick_bool, strip_pv, strip_opt, vstr_true, optV_none, optV_some, pickV_bool, ev_tmp, ev_const, ofConst_bool, put_some, at_mk, fits_some, ↓look_cons, ↓vlook_t, ↓vlook_f, guard_none, guard_some, vgof_bool, ↓vrun_nil, evG_eq, ↓vrun_cons, ↓run1_some, ↓runG_true, ↓run2_none, ↓run3_some, ↓runK_eq, at_hp, List.getElem?_cons_zero, List.getElem?_cons_succ, Option.map_some, Option.bind_some, Nat.reduceLT, Nat.reduceBEq, Int.reduceLT, Int.reduceBEq, true_and, or_true, Bool.not_true, Bool.not_false, Bool.or_true, Bool.true_and, b_beq_f, cond_false, beq_self_eq_true, ↓vspK_eq, vspC_true, vspR_eq, pick_nil, pick_cons, pickO_some, agree_nil, dec_t]))
    | (refine vc_pure (hb2 (by omega)) rfl ?_; (try simp (config := { maxSteps := 2000000 }) (implicitDefEqProofs := false) (disch := first | omega | assumption | (simp only []; done) | fail) only [vop_pick, vcallee_pick, vop_unOp, vcallee_unOp, vpick_bool, strip_pv, strip_opt, vstr_true, optV_none, optV_some, pickV_bool, ev_tmp, ev_const, ofConst_bool, put_some, at_mk, fits_some, ↓look_cons, ↓vlook_t, ↓vlook_f, guard_none, guard_some, vgof_bool, ↓vrun_nil, ↓onNormal_normal, un_not, evG_eq, ↓vrun_cons, ↓run1_some, ↓runG_true, ↓run2_none, ↓run3_some, ↓runK_eq, ↓code_cond, ↓vtest_bool, at_hp, List.getElem?_cons_zero, List.getElem?_cons_succ, Option.map_some, Option.bind_some, Nat.reduceLT, Nat.reduceBEq, Int.reduceLT, Int.reduceBEq, true_and, or_true, Bool.not_true, Bool.not_false, Bool.or_true, Bool.true_and, cond_false, beq_self_eq_true, ↓vsp_nil, ↓vspK_eq, vspC_true, vspR_eq, pick_nil, pick_cons, pickO_some, agree_nil, dec_t]))
    | (refine vspineT (id := 15) [[], [0], [0, 1], [0, 1, 2], [0, 1, 2, 3], [0, 1, 2, 3, 4], [0, 1, 2, 3], [0, 1, 2, 3, 6], [0, 1, 2, 3, 4, 5, 6, 7], [0, 1, 2, 3, 4, 5, 6, 7, 8], [0, 1, 2, 3, 4, 5, 6, 7, 8, 9], [0, 1, 2, 3, 4, 5, 6, 7, 8, 9, 10], [0, 1, 2, 3, 4, 5, 6, 7, 8, 9, 10, 11], [0, 1, 2, 3, 4, 5, 6, 7, 8, 9, 10, 11, 12], [0, 1, 2, 3, 4, 5, 6, 7, 8, 9, 10, 11, 12, 13], [0, 1, 2, 3, 4, 5, 6, 7, 8, 9, 10, 11, 12, 13, 14], [0, 1, 2, 3, 4, 5, 6, 7, 8, 9, 10, 11, 12, 13], [0, 1, 2, 3, 4, 5, 6, 7, 8, 9, 10, 11, 12, 13, 16], [0, 1, 2, 3, 4, 5, 6, 7, 8, 9, 10, 11, 12, 13, 14, 15, 16, 17], [0, 1, 2, 3, 4, 5, 6, 7, 8, 9, 10, 11, 12, 13, 14, 15, 16, 17, 18], [0, 1, 2, 3, 4, 5, 6, 7, 8, 9, 10, 11, 12, 13, 14, 15, 16, 17, 18, 19], [0, 1, 2, 3, 4, 5, 6, 7, 8, 9, 10, 11, 12, 13], [0, 1, 2, 3, 4, 5, 6, 7, 8, 9, 10, 11, 12, 13, 21], [0, 1, 2, 3, 4, 5, 6, 7, 8, 9, 10, 11, 12, 13, 14, 15, 16, 17, 18, 19, 20, 21, 22], [0, 1, 2, 3, 4, 5, 6, 7, 8, 9, 10, 11, 12, 13, 14, 15, 16, 17, 18, 19, 20, 21, 22, 23], [0, 1, 2, 3, 4, 5, 6, 7, 8, 9, 10, 11, 12, 13, 14, 15, 16, 17, 18, 19, 20, 21, 22, 23, 24], [0, 1, 2, 3, 4, 5, 6, 7, 8, 9, 10, 11, 12, 13, 14, 15, 16, 17, 18, 19, 20, 21, 22, 23, 24, 25], [0, 1, 2, 3, 4, 5, 6, 7, 8, 9, 10, 11, 12, 13, 14, 15, 16, 17, 18, 19, 20, 21, 22, 23, 24, 25, 26], [0, 1, 2, 3, 4, 5, 6, 7, 8, 9, 10, 11, 12, 13, 14, 15, 16, 17, 18, 19, 20, 21, 22, 23, 24, 25, 26, 27], [0, 1, 2, 3, 4, 5, 6, 7, 8, 9, 10, 11, 12, 13, 14, 15, 16, 17, 18, 19, 20, 21, 22, 23, 24, 25, 26], [0, 1, 2, 3, 4, 5, 6, 7, 8, 9, 10, 11, 12, 13, 14, 15, 16, 17, 18, 19, 20, 21, 22, 23, 24, 25, 26, 29], [0, 1, 2, 3, 4, 5, 6, 7, 8, 9, 10, 11, 12, 13, 14, 15, 16, 17, 18, 19, 20, 21, 22, 23, 24, 25, 26, 27, 28, 29, 30], [0, 1, 2, 3, 4, 5, 6, 7, 8, 9, 10, 11, 12, 13, 14, 15, 16, 17, 18, 19, 20, 21, 22, 23, 24, 25, 26, 27, 28, 29, 30, 31], [0, 1, 2, 3, 4, 5, 6, 7, 8, 9, 10, 11, 12, 13, 14, 15, 16, 17, 18, 19, 20, 21, 22, 23, 24, 25, 26, 27, 28, 29, 30, 31, 32], [0, 1, 2, 3, 4, 5, 6, 7, 8, 9, 10, 11, 12, 13, 14, 15, 16, 17, 18, 19, 20, 21, 22, 23, 24, 25, 26, 27, 28, 29, 30, 31, 32, 33], [0, 1, 2, 3, 4, 5, 6, 7, 8, 9, 10, 11, 12, 13, 14, 15, 16, 17, 18, 19, 20, 21, 22, 23, 24, 25, 26, 27, 28, 29, 30, 31, 32, 33, 34], [0, 1, 2, 3, 4, 5, 6, 7, 8, 9, 10, 11, 12, 13, 14, 15, 16, 17, 18, 19, 20, 21, 22, 23, 24, 25, 26, 27, 28, 29, 30, 31, 32, 33], [0, 1, 2, 3, 4, 5, 6, 7, 8, 9, 10, 11, 12, 13, 14, 15, 16, 17, 18, 19, 20, 21, 22, 23, 24, 25, 26, 27, 28, 29, 30, 31, 32, 33, 36], [0, 1, 2, 3, 4, 5, 6, 7, 8, 9, 10, 11, 12, 13, 14, 15, 16, 17, 18, 19, 20, 21, 22, 23, 24, 25, 26, 27, 28, 29, 30, 31, 32, 33], [0, 1, 2, 3, 4, 5, 6, 7, 8, 9, 10, 11, 12, 13, 14, 15, 16, 17, 18, 19, 20, 21, 22, 23, 24, 25, 26, 27, 28, 29, 30, 31, 32, 33, 38], [0, 1, 2, 3, 4, 5, 6, 7, 8, 9, 10, 11, 12, 13, 14, 15, 16, 17, 18, 19, 20, 21, 22, 23, 24, 25, 26, 27, 28, 29, 30, 31, 32, 33, 36, 37, 38, 39], [0, 1, 2, 3, 4, 5, 6, 7, 8, 9, 10, 11, 12, 13, 14, 15, 16, 17, 18, 19, 20, 21, 22, 23, 24, 25, 26, 27, 28, 29, 30, 31, 32, 33, 34, 35, 36, 37, 38, 39, 40], [0, 1, 2, 3, 4, 5, 6, 7, 8, 9, 10, 11, 12, 13, 14, 15, 16, 17, 18, 19, 20, 21, 22, 23, 24, 25, 26, 27, 28, 29, 30, 31, 32, 33, 34, 35, 36, 37, 38, 39, 40, 41], [0, 1, 2, 3, 4, 5, 6, 7, 8, 9, 10, 11, 12, 13, 14, 15, 16, 17, 18, 19, 20, 21, 22, 23, 24, 25, 26, 27, 28, 29, 30, 31, 32, 33, 34, 35, 36, 37, 38, 39, 40, 41, 42], [0, 1, 2, 3, 4, 5, 6, 7, 8, 9, 10, 11, 12, 13, 14, 15, 16, 17, 18, 19, 20, 21, 22, 23, 24, 25, 26, 27, 28, 29, 30, 31, 32, 33, 34, 35, 36, 37, 38, 39, 40, 41, 42, 43], [0, 1, 2, 3, 4, 5, 6, 7, 8, 9, 10, 11, 12, 13, 14, 15, 16, 17, 18, 19, 20, 21, 22, 23, 24, 25, 26, 27, 28, 29, 30, 31, 32, 33, 34, 35, 36, 37, 38, 39, 40, 41, 42, 43, 44], [0, 1, 2, 3, 4, 5, 6, 7, 8, 9, 10, 11, 12, 13, 14, 15, 16, 17, 18, 19, 20, 21, 22, 23, 24, 25, 26, 27, 28, 29, 30, 31, 32, 33, 34, 35, 36, 37, 38, 39, 40, 41, 42, 43], [0, 1, 2, 3, 4, 5, 6, 7, 8, 9, 10, 11, 12, 13, 14, 15, 16, 17, 18, 19, 20, 21, 22, 23, 24, 25, 26, 27, 28, 29, 30, 31, 32, 33, 34, 35, 36, 37, 38, 39, 40, 41, 42, 43, 46], [0, 1, 2, 3, 4, 5, 6, 7, 8, 9, 10, 11, 12, 13, 14, 15, 16, 17, 18, 19, 20, 21, 22, 23, 24, 25, 26, 27, 28, 29, 30, 31, 32, 33, 34, 35, 36, 37, 38, 39, 40, 41, 42, 43, 44, 45, 46, 47], [0, 1, 2, 3, 4, 5, 6, 7, 8, 9, 10, 11, 12, 13, 14, 15, 16, 17, 18, 19, 20, 21, 22, 23, 24, 25, 26, 27, 28, 29, 30, 31, 32, 33, 34, 35, 36, 37, 38, 39, 40, 41, 42, 43, 44, 45, 46, 47, 48], [0, 1, 2, 3, 4, 5, 6, 7, 8, 9, 10, 11, 12, 13, 14, 15, 16, 17, 18, 19, 20, 21, 22, 23, 24, 25, 26, 27, 28, 29, 30, 31, 32, 33, 34, 35, 36, 37, 38, 39, 40, 41, 42, 43, 44, 45, 46, 47, 48, 49], [0, 1, 2, 3, 4, 5, 6, 7, 8, 9, 10, 11, 12, 13, 14, 15, 16, 17, 18, 19, 20, 21, 22, 23, 24, 25, 26, 27, 28, 29, 30, 31, 32, 33, 34, 35, 36, 37, 38, 39, 40, 41, 42, 43, 44, 45, 46, 47, 48, 49, 50], [0, 1, 2, 3, 4, 5, 6, 7, 8, 9, 10, 11, 12, 13, 14, 15, 16, 17, 18, 19, 20, 21, 22, 23, 24, 25, 26, 27, 28, 29, 30, 31, 32, 33, 34, 35, 36, 37, 38, 39, 40, 41, 42, 43, 44, 45, 46, 47, 48, 49, 50, 51], [0, 1, 2, 3, 4, 5, 6, 7, 8, 9, 10, 11, 12, 13, 14, 15, 16, 17, 18, 19, 20, 21, 22, 23, 24, 25, 26, 27, 28, 29, 30, 31, 32, 33, 34, 35, 36, 37, 38, 39, 40, 41, 42, 43, 44, 45, 46, 47, 48, 49, 50], [0, 1, 2, 3, 4, 5, 6, 7, 8, 9, 10, 11, 12, 13, 14, 15, 16, 17, 18, 19, 20, 21, 22, 23, 24, 25, 26, 27, 28, 29, 30, 31, 32, 33, 34, 35, 36, 37, 38, 39, 40, 41, 42, 43, 44, 45, 46, 47, 48, 49, 50, 53], [0, 1, 2, 3, 4, 5, 6, 7, 8, 9, 10, 11, 12, 13, 14, 15, 16, 17, 18, 19, 20, 21, 22, 23, 24, 25, 26, 27, 28, 29, 30, 31, 32, 33, 34, 35, 36, 37, 38, 39, 40, 41, 42, 43, 44, 45, 46, 47, 48, 49, 50, 51, 52, 53, 54], [0, 1, 2, 3, 4, 5, 6, 7, 8, 9, 10, 11, 12, 13, 14, 15, 16, 17, 18, 19, 20, 21, 22, 23, 24, 25, 26, 27, 28, 29, 30, 31, 32, 33, 34, 35, 36, 37, 38, 39, 40, 41, 42, 43, 44, 45, 46, 47, 48, 49, 50, 51, 52, 53, 54, 55], [0, 1, 2, 3, 4, 5, 6, 7, 8, 9, 10, 11, 12, 13, 14, 15, 16, 17, 18, 19, 20, 21, 22, 23, 24, 25, 26, 27, 28, 29, 30, 31, 32, 33, 34, 35, 36, 37, 38, 39, 40, 41, 42, 43, 44, 45, 46, 47, 48, 49, 50, 51, 52, 53, 54, 55, 56]] [0, 1, 2, 3, 4, 5, 6, 7, 8, 9, 10, 11, 12, 13, 14, 15, 16, 17, 18, 19, 20, 21, 22, 23, 24, 25, 26, 27, 28, 29, 30, 31, 32, 33, 34, 35, 36, 37, 38, 39, 40, 41, 42, 43, 44, 45, 46, 47] [⟨[], [], 48, [], [49, 50, 51, 52, 53, 54]⟩, ⟨[], [], 55, [], [56, 57]⟩] (by kernel_rfl) (by kernel_rfl) (by kernel_rfl) ?_; (try simp (config := { maxSteps := 2000000 }) (implicitDefEqProofs := false) (disch := first | omega | assumption | (simp only []; done) | fail) only [vop_move, vcallee_move, vop_load, vcallee_load, vop_binOp, vcallee_binOp, vop_fieldAddr, vcallee_fieldAddr, bin2_int, strip_pv, strip_ptr, optV_none, ev_tmp, ev_const, ofConst_int, put_some, at_mk, fits_some, ↓look_cons, ↓vlook_t, guard_none, guard_some, vgof_bool, load_ptr, vld_one, blk_zero, blk_succ, faddr_ptr, vfap_some, bin_int, int_lss, evG_eq, ↓vrun_cons, ↓run1_some, ↓runG_true, ↓run2_none, ↓run3_some, at_hp, List.getElem?_cons_zero, List.getElem?_cons_succ, Option.map_some, Option.bind_some, ↓reduceIte, reduceCtorEq, Nat.reduceLT, Int.reduceLT, Nat.add_zero, true_and, Bool.true_and, b_beq_f, beq_self_eq_true, pick_nil, pick_cons, pickO_some, Try.vt3, Try.vfield61x0, dec_t])))
  all_goals first
    | (exact no3 s.i (by omega) (fun h => by
         rw [cpE, hgd (by omega)] at h
         simp only [Bool.and_eq_true, Bool.or_eq_true, Bool.not_eq_true', decide_eq_true_eq, decide_eq_false_iff_not] at h
         obtain ⟨⟨⟨⟨⟨⟨⟨h1, h2⟩, h3⟩, h4⟩, h5⟩, h6⟩, h7⟩, h8⟩ := h
         first | omega | exact absurd h4 hZ | exact absurd hZ h7))
    | skip
  rotate_right
  · have hpl := s.all (by omega)
    have hin : s.i = places.length := by omega
    rw [okE, hhd, hallB, hpl]
    congr 3
    rw [Bool.eq_iff_iff]
    simp only [Bool.and_eq_true, beq_iff_eq, true_and]
    omega
  all_goals
    have hlt : s.i < places.length := by omega
    have hck : (¬ places[s.i].ad ∈ (places.take s.i).map (·.ad)) → R.chkP s.i = true := fun h => by
      rw [cpE, hgd hlt]
      simp only [Bool.and_eq_true, Bool.or_eq_true, Bool.not_eq_true', decide_eq_true_eq, decide_eq_false_iff_not]
      refine ⟨⟨⟨⟨⟨⟨⟨by omega, by omega⟩, by omega⟩, by assumption⟩, by omega⟩, by omega⟩, by assumption⟩, h⟩
    have hck2 : places[s.i].ad ∈ (places.take s.i).map (·.ad) → ¬ R.chkP s.i = true := fun h h2 => by
      rw [cpE, hgd hlt] at h2
      simp only [Bool.and_eq_true, Bool.or_eq_true, Bool.not_eq_true', decide_eq_true_eq, decide_eq_false_iff_not] at h2
      exact h2.2 h
    refine vloopW (fun q : {k : Nat // k ≤ s.i ∧ ∀ j (hj : j < places.length), j < k → ¬ places[j].ad = places[s.i].ad} => ⟨177, 0, [(7, .int .i64 q.1), (6, .ptr 1 0), (5, .int .i64 s.i), (3, .int .i64 (R.own bad.length)), (1, .ptr 0 0)], [⟨34, true, [.int .i64 pages, .int .i64 spares, .pv (.sl (fz encP places)), .pv (.sl (fz encI bad))]⟩, ⟨61, true, [.int .i64 (places[s.i]'hlt).pg, .int .i64 (places[s.i]'hlt).ad]⟩]⟩) (fun q => s.i - q.1) ⟨0, Nat.zero_le _, fun j _ h => by omega⟩ (by exact (by refine gc_of (keep := [0, 1]) rfl rfl rfl (by decide) ?_ ?_ <;> (repeat' apply And.intro) <;> first | trivial | rfl | exact ⟨_, rfl, rfl, rfl, .inl ⟨rfl, rfl⟩⟩ | exact ⟨_, rfl, rfl, rfl, .inl ⟨cells_nums _ _ _, rfl⟩⟩ | exact ⟨_, rfl, rfl, rfl, .inl ⟨pvs_nums _ _, rfl⟩⟩ | exact ⟨_, rfl, rfl, rfl, .inr ⟨rfl, rfl⟩⟩)) ?_
    clear hb1 hb2 hg hgp
    rintro ⟨k, hk, hkn⟩
    dsimp only
    have hgk := fun h : k < places.length => fzP_at places k h
    (try simp (config := { maxSteps := 2000000 }) (implicitDefEqProofs := false) (disch := first | omega | assumption | (simp only []; done) | fail) only [vop_move, vcallee_move, vop_assign, vcallee_assign, vop_binOp, vcallee_binOp, bin2_tmp, bin2_int, strip_pv, optV_none, ev_tmp, ev_const, ofConst_int, put_some, at_mk, fits_some, ↓look_cons, ↓vlook_t, ↓vlook_f, guard_none, ↓vrun_nil, ↓code_region, ↓code_seq, ↓code_exit, ↓onNormal_normal, ↓onNormal_exit, ↓onBlock_normal, ↓onBlock_exit, bin_int, int_add, int_lss, evG_eq, ↓vrun_cons, ↓run1_some, ↓runG_true, ↓run2_none, ↓run3_some, ↓code_cond, ↓vtest_bool, ↓vbr_false, at_hp, Option.map_some, ↓reduceIte, Nat.reduceLT, Nat.reduceBEq, Int.reduceLT, Int.reduceBEq, true_and, Bool.true_and, beq_self_eq_true, wrap_i64_in, dec_t, dec_f])
    repeat' (first
      | (refine vrunG_split (fun hZ => ?_) (fun hZ => ?_) <;> (try rw [hZ]) <;> (try simp only [decide_eq_true_eq, decide_eq_false_iff_not, Bool.or_eq_true, Bool.and_eq_true, Bool.or_eq_false_iff, Bool.and_eq_false_imp, Bool.not_eq_true', Bool.not_eq_false', beq_iff_eq, beq_eq_false_iff_ne, bne_iff_ne, bne_eq_false_iff_eq, ne_eq, Bool.not_eq_eq_eq_not, Bool.not_true, Bool.not_false] at hZ) <;> (try (first | rw [(hZ : _ = false)] | rw [(hZ : _ = true)])) <;> skip)
      | (refine vbr_split (fun hZ => ?_) (fun hZ => ?_) <;> (try rw [hZ]) <;> (try simp only [decide_eq_true_eq, decide_eq_false_iff_not, Bool.or_eq_true, Bool.and_eq_true, Bool.or_eq_false_iff, Bool.and_eq_false_imp, Bool.not_eq_true', Bool.not_eq_false', beq_iff_eq, beq_eq_false_iff_ne, bne_iff_ne, bne_eq_false_iff_eq, ne_eq, Bool.not_eq_eq_eq_not, Bool.not_true, Bool.not_false] at hZ) <;> (try (first | rw [(hZ : _ = false)] | rw [(hZ : _ = true)])) <;> (try simp (config := { maxSteps := 2000000 }) (implicitDefEqProofs := false) (disch := first | omega | assumption | (simp only []; done) | fail) only [vop_move, vcallee_move, vop_assign, vcallee_assign, vop_binOp, vcallee_binOp, bin2_int, strip_pv, optV_none, ev_tmp, ev_const, ofConst_int, ofConst_bool, put_some, at_mk, fits_some, ↓look_cons, ↓vlook_t, ↓vlook_f, guard_none, ↓vrun_nil, ↓code_skip, ↓code_region, ↓code_draw, ↓code_seq, ↓code_block, ↓code_exit, ↓code_ret, ↓onNormal_normal, ↓onNormal_ret, ↓onNormal_exit, ↓onBlock_normal, ↓onBlock_ret, ↓onBlock_exit, frz_pv, frzHeap_zero, res_one, vres_tmp, bin_int, int_add, evG_eq, ↓vrun_cons, ↓run1_some, ↓runG_true, ↓run2_none, ↓run3_some, ↓vpost_ret, vfin_some, vfin2_some, at_hp, Option.map_some, ↓reduceIte, Nat.reduceLT, Nat.reduceBEq, Int.reduceLT, Int.reduceBEq, true_and, Bool.true_and, beq_self_eq_true, wrap_i64_in, dec_t, Ret, DV.nums]))
      | (refine vdrG_split (fun hZ => ?_) (fun hZ => ?_) <;> (try rw [hZ]) <;> (try simp only [decide_eq_true_eq, decide_eq_false_iff_not, Bool.or_eq_true, Bool.and_eq_true, Bool.or_eq_false_iff, Bool.and_eq_false_imp, Bool.not_eq_true', Bool.not_eq_false', beq_iff_eq, beq_eq_false_iff_ne, bne_iff_ne, bne_eq_false_iff_eq, ne_eq, Bool.not_eq_eq_eq_not, Bool.not_true, Bool.not_false] at hZ) <;> (try (first | rw [(hZ : _ = false)] | rw [(hZ : _ = true)])) <;> skip)
      | (refine vspine (id := 20) [0, 1, 2, 3, 4, 5, 6, 7, 8] [] (by kernel_rfl) (by kernel_rfl) ?_; (try simp (config := { maxSteps := 2000000 }) (implicitDefEqProofs := false) (disch := first | omega | assumption | (simp only [List.length_cons, List.length_nil, Nat.zero_add, Nat.reduceAdd]; done) | fail) only [vop_move, vcallee_move, vop_load, vcallee_load, vop_binOp, vcallee_binOp, vop_fieldAddr, vcallee_fieldAddr, vop_indexAddr, vcallee_indexAddr, bin2_tmp, strip_pv, strip_ptr, strip_ip, optV_none, ev_tmp, put_some, at_mk, fits_some, ↓look_cons, ↓vlook_t, ↓vlook_f, guard_none, ↓vrun_nil, ↓onNormal_normal, load_ptr, load_ip, vld_one, vldp_one, blk_zero, blk_succ, faddr_ptr, vfap_some, faddr_ip, vfai_some, iaddr_sl, vias_some, bin_int, int_eql, evG_eq, ↓vrun_cons, ↓run1_some, ↓runG_true, ↓run2_none, ↓run3_some, ↓code_cond, ↓vtest_bool, at_hp, List.getElem?_cons_zero, List.getElem?_cons_succ, List.drop_succ_cons, List.drop_zero, Option.map_some, ↓reduceIte, reduceCtorEq, Nat.reduceLT, Nat.reduceBEq, Int.reduceLT, Int.reduceBEq, Int.toNat_natCast, Nat.zero_add, true_and, Bool.true_and, beq_self_eq_true, ↓vsp_nil, pick_nil, pick_cons, pickO_some, Try.vt3, Try.vt31, Try.velem31, Try.vfield34x2, Try.vfield61x1, dec_t, hgk])))
  all_goals first
    | (exact no3 s.i hlt (hck2 (List.mem_map.2 ⟨places[k], List.mem_take_iff_getElem.2 ⟨k, by omega, rfl⟩, hZ⟩)))
    | (refine ⟨⟨k + 1, by omega, fun j hj h => ?_⟩, by show s.i - (k + 1) < s.i - k; omega, (by refine gc_of (keep := [0, 1]) rfl rfl rfl (by decide) ?_ ?_ <;> (repeat' apply And.intro) <;> first | trivial | rfl | exact ⟨_, rfl, rfl, rfl, .inl ⟨rfl, rfl⟩⟩ | exact ⟨_, rfl, rfl, rfl, .inl ⟨cells_nums _ _ _, rfl⟩⟩ | exact ⟨_, rfl, rfl, rfl, .inl ⟨pvs_nums _ _, rfl⟩⟩ | exact ⟨_, rfl, rfl, rfl, .inr ⟨rfl, rfl⟩⟩)⟩
       rcases Nat.lt_or_ge j k with h2 | h2
       · exact hkn j hj h2
       · have h3 : j = k := by omega
         subst h3; exact hZ)
    | (refine ⟨s.next hlt (hck fun h => ?_), by show places.length - (s.i + 1) < places.length - s.i; omega, (by refine gc_of (keep := [0]) rfl rfl rfl (by decide) ?_ ?_ <;> (repeat' apply And.intro) <;> first | trivial | rfl | exact ⟨_, rfl, rfl, rfl, .inl ⟨rfl, rfl⟩⟩ | exact ⟨_, rfl, rfl, rfl, .inl ⟨cells_nums _ _ _, rfl⟩⟩ | exact ⟨_, rfl, rfl, rfl, .inl ⟨pvs_nums _ _, rfl⟩⟩ | exact ⟨_, rfl, rfl, rfl, .inr ⟨rfl, rfl⟩⟩)⟩
       obtain ⟨p, hp, hpe⟩ := List.mem_map.1 h
       obtain ⟨j, hj, hje⟩ := List.mem_take_iff_getElem.1 hp
       exact hkn j (by omega) (by omega) (hje ▸ hpe))
    | skip
end Go.Proofs.Ytnilcppifcekmaa
namespace Go.Proofs.Ytnilcppifcekmaa
open Go.V Go
theorem fzS_get (s : List UInt8) (i : Nat) (h : i < s.length) : s[i]? = some (s.getD i 0) := by rw [List.getD_eq_getElem?_getD, List.getElem?_eq_getElem h]; rfl
theorem nb_drop (s : List UInt8) (k : Nat) : nb (s.drop 2) k = (s.getD (2 + k) 0).toNat := by
  unfold nb
  rw [List.getD_eq_getElem?_getD, List.getElem?_drop, ← List.getD_eq_getElem?_getD]
theorem parse_v (s : List UInt8) (hs : s.length ≤ 100000) : VCalls Try.prog 31 [.pv (.str s)] [] (RetS (fun a : Rm × Bool => .tup [.agg a.1.c, .bool a.2]) fun a => a.2 = blobB s ∧ (a.2 = true → a.1 = rdQ (s.drop 2))) := by
  refine dk Try.func31 ?_
  (unfold Try.f31; refine rn trivial ?_)
  have no : blobB s = false → RetS (fun a : Rm × Bool => .tup [.agg a.1.c, .bool a.2]) (fun a => a.2 = blobB s ∧ (a.2 = true → a.1 = rdQ (s.drop 2))) (.tup [.agg [.int .i64 0, .int .i64 0, .pv (.sl []), .pv (.sl [])], .bool false]) [] := fun h => ⟨rfl, rfl, (⟨0, 0, [], []⟩, false), rfl, by rw [h], fun h => by cases h⟩
  have hnb : s.take 2 ≠ [81, 77] → blobB s = false := fun h => by unfold blobB; rw [decide_eq_false h]; rfl
  have hsh : s.length < 6 → blobB s = false := fun h => by
    unfold blobB rdOk
    rw [List.length_drop, decide_eq_false (show ¬ (s.length - 2 = 4 + 2 * rdN (s.drop 2) + rdM (s.drop 2)) by omega)]; simp
  by_cases h6 : s.length < 6
  · have h6' : (s.length : Int) < 6 := by omega
    have F := @h6'
    (refine rn F ?_; try with_reducible exact True.intro)
    all_goals exact no (hsh h6)
  have h6' : ¬ (s.length : Int) < 6 := by omega
  by_cases hq : s.take 2 = [81, 77]
  rotate_left
  · skip
    have F := (And.intro @h6' @hq)
    refine rn F ?_
    repeat' (first
      | with_reducible exact True.intro
      | (refine sB F ?_ ?_ <;> intro hZ)
      | (refine vspine (id := 3) [0, 1, 2, 3, 4, 5, 6] [⟨[7], [7], 8, [], []⟩] (by kernel_rfl) (by kernel_rfl) ?_; refine rn F ?_))
    all_goals first | exact no (hnb hq) | (exfalso; exact hq (by assumption))
  have hbl : blobB s = rdOk (s.drop 2) := by unfold blobB; rw [decide_eq_true hq]; rfl
  have hld : (s.drop 2).length = s.length - 2 := List.length_drop
  have nd := fun k => nb_drop s k
  have hN : rdN (s.drop 2) = nb (s.drop 2) 2 := rfl
  have hok : rdOk (s.drop 2) = (decide ((s.drop 2).length = 4 + 2 * rdN (s.drop 2) + rdM (s.drop 2)) && (rdQ (s.drop 2)).okB) := rfl
  have hM : rdM (s.drop 2) = nb (s.drop 2) (3 + 2 * rdN (s.drop 2)) := rfl
  have hQ : rdQ (s.drop 2) = ⟨nb (s.drop 2) 0, nb (s.drop 2) 1, rdP (s.drop 2) (rdN (s.drop 2)), rdB (s.drop 2) (rdN (s.drop 2)) (rdM (s.drop 2))⟩ := rfl
  have wb : ∀ b : UInt8, IntKind.i64.wrap (b.toNat : Int) = b.toNat := fun b => by have := UInt8.toNat_lt b; rw [IntKind.wrap_i64] <;> omega
  generalize s.drop 2 = t at *
  have g2 : s[2]? = some (s.getD 2 0) := fzS_get s 2 (by omega)
  have g3 : s[3]? = some (s.getD 3 0) := fzS_get s 3 (by omega)
  have g4 : s[4]? = some (s.getD 4 0) := fzS_get s 4 (by omega)
  have q0 : ((s.getD 2 0).toNat : Int) = nb t 0 := by rw [nd 0]
  have q1 : ((s.getD 3 0).toNat : Int) = nb t 1 := by rw [nd 1]
  have q2 : ((s.getD 4 0).toNat : Int) = nb t 2 := by rw [nd 2]
  have hn := UInt8.toNat_lt (s.getD (2 + 2) 0)
  rw [← nd 2] at hn
  have b0 : nb t 0 < 256 := by rw [nd 0]; exact UInt8.toNat_lt _
  have b1 : nb t 1 < 256 := by rw [nd 1]; exact UInt8.toNat_lt _
  rw [hM] at hok hQ
  clear hM
  rw [hN] at hok hQ
  clear hN
  generalize nb t 2 = n at *
  have h5 : ((5 : Int) + 2 * (n : Int)).toNat = 5 + 2 * n := by omega
  by_cases ha : s.length ≤ 5 + 2 * n
  · have ha' : (s.length : Int) ≤ 5 + 2 * (n : Int) := by omega
    have hf : blobB s = false := by rw [hbl, hok, decide_eq_false (by omega)]; rfl
    have F := (And.intro @h6' (And.intro @hq (And.intro @g2 (And.intro @g3 (And.intro @g4 (And.intro @wb (And.intro @q0 (And.intro @q1 (And.intro @q2 @ha')))))))))
    refine rn F ?_
    repeat' (first
      | with_reducible exact True.intro
      | (refine vspine (id := 3) [0, 1, 2, 3, 4, 5, 6] [⟨[7], [7], 8, [], []⟩] (by kernel_rfl) (by kernel_rfl) ?_; refine rn F ?_))
    all_goals exact no hf
  have ha' : ¬ (s.length : Int) ≤ 5 + 2 * (n : Int) := by omega
  have g5 : s[5 + 2 * n]? = some (s.getD (5 + 2 * n) 0) := fzS_get s _ (by omega)
  have q5 : ((s.getD (5 + 2 * n) 0).toNat : Int) = nb t (3 + 2 * n) := by rw [nd (3 + 2 * n), show 2 + (3 + 2 * n) = 5 + 2 * n by omega]
  have hm := UInt8.toNat_lt (s.getD (2 + (3 + 2 * n)) 0)
  rw [← nd (3 + 2 * n)] at hm
  generalize nb t (3 + 2 * n) = m at *
  by_cases hlen : s.length = 6 + 2 * n + m
  rotate_left
  · have hl' : ¬ (s.length : Int) = 5 + 2 * (n : Int) + 1 + m := by omega
    have hf : blobB s = false := by rw [hbl, hok, decide_eq_false (by omega)]; rfl
    have F := (And.intro @h6' (And.intro @hq (And.intro @g2 (And.intro @g3 (And.intro @g4 (And.intro @wb (And.intro @q0 (And.intro @q1 (And.intro @q2 (And.intro @ha' (And.intro @h5 (And.intro @g5 (And.intro @q5 @hl')))))))))))))
    refine rn F ?_
    repeat' (first
      | with_reducible exact True.intro
      | (refine vspine (id := 3) [0, 1, 2, 3, 4, 5, 6] [⟨[7], [7], 8, [], []⟩] (by kernel_rfl) (by kernel_rfl) ?_; refine rn F ?_))
    all_goals exact no hf
  have hl' : (s.length : Int) = 5 + 2 * (n : Int) + 1 + m := by omega
  have F := (And.intro @h6' (And.intro @hq (And.intro @g2 (And.intro @g3 (And.intro @g4 (And.intro @wb (And.intro @q0 (And.intro @q1 (And.intro @q2 (And.intro @ha' (And.intro @h5 (And.intro @g5 @q5))))))))))))
  refine rn F ?_
  repeat' (first
    | with_reducible exact True.intro
    | (refine vspine (id := 3) [0, 1, 2, 3, 4, 5, 6] [⟨[7], [7], 8, [], []⟩] (by kernel_rfl) (by kernel_rfl) ?_; refine rn F ?_))
  refine VLoop.nilOwnC 1 2 61 2 rfl rfl ?_
  refine rn trivial ?_
  have nbl : ∀ k, nb t k < 256 := fun k => by rw [nd k]; exact UInt8.toNat_lt _
  have q : ∀ k, ((s.getD (2 + k) 0).toNat : Int) = nb t k := fun k => by rw [nd k]
  refine vloopW (fun x : To n => ⟨91, 0, [(7, .int .i64 x.i), (6, .int .i64 (5 + 2 * (n : Int))), (5, .int .i64 n), (4, .ptr 1 0), (2, .ptr 0 0), (0, .pv (.str s))], [⟨34, true, [.int .i64 0, .int .i64 0, .pv (.slc []), .pv (.slc [])]⟩, ⟨34, true, [.int .i64 (nb t 0), .int .i64 (nb t 1), .own 2 2 0 (rdP t x.i).length, .pv (.slc [])]⟩, ⟨61, true, cells encP (rdP t x.i)⟩]⟩) (fun x => n - x.i) ⟨0, Nat.zero_le _⟩ (gc [0, 1, 2]) ?_
  rintro ⟨i, hi⟩
  dsimp only
  have hpl : (rdP t i).length = i := by simp [rdP]
  have hb : ((rdP t i).length + 1) * 16 ≤ 140737488355328 := by omega
  by_cases hin : i < n
  · have hin' : (i : Int) < n := by omega
    have hsu : rdP t i ++ [⟨nb t (3 + 2 * i), nb t (4 + 2 * i)⟩] = rdP t (i + 1) := by
      simp only [rdP, List.range_succ, List.map_append, List.map_cons, List.map_nil]
    have e1 : ((5 : Int) + 2 * (i : Int)).toNat = 5 + 2 * i := by omega
    have e2 : ((6 : Int) + 2 * (i : Int)).toNat = 6 + 2 * i := by omega
    have g6 : s[5 + 2 * i]? = some (s.getD (5 + 2 * i) 0) := fzS_get s _ (by omega)
    have g7 : s[6 + 2 * i]? = some (s.getD (6 + 2 * i) 0) := fzS_get s _ (by omega)
    have q6 := q (3 + 2 * i)
    have q7 := q (4 + 2 * i)
    rw [show 2 + (3 + 2 * i) = 5 + 2 * i by omega] at q6
    rw [show 2 + (4 + 2 * i) = 6 + 2 * i by omega] at q7
    have b6 := nbl (3 + 2 * i)
    have b7 := nbl (4 + 2 * i)
    have F := (And.intro @hin' (And.intro @hb (And.intro @e1 (And.intro @e2 (And.intro @g6 (And.intro @g7 (And.intro @q6 @q7)))))))
    refine rn F ?_
    repeat' (first
      | with_reducible exact True.intro
      | (refine vspine (id := 11) [0, 1, 2, 3, 4, 5, 6, 7, 8, 9, 10, 11, 12, 13, 14] [⟨[15], [15], 16, [0, 2, 3, 4, 5, 6, 7, 8, 9, 10, 11, 12, 13, 14], [17]⟩, ⟨[], [], 18, [], []⟩] (by kernel_rfl) (by kernel_rfl) ?_; refine rn F ?_))
    refine ⟨⟨i + 1, hin⟩, by dsimp only; omega, ?_⟩
    dsimp only
    rw [← hsu, List.length_append, List.length_singleton]
    exact (gc [0, 1, 4])
  obtain rfl : i = n := by omega
  have hin' : ¬ (i : Int) < i := by omega
  have F := @hin'
  refine rn F ?_
  refine VLoop.nilOwnC 1 3 3 1 rfl rfl ?_
  refine rn trivial ?_
  rw [show (5 : Int) + 2 * (i : Int) + 1 = ((6 + 2 * i + 0 : Nat) : Int) by omega]
  refine vloopW (fun x : To m => ⟨91, 0, [(8, .int .i64 (6 + 2 * i + x.i : Nat)), (4, .ptr 1 0), (2, .ptr 0 0), (0, .pv (.str s))], [⟨34, true, [.int .i64 0, .int .i64 0, .pv (.slc []), .pv (.slc [])]⟩, ⟨34, true, [.int .i64 (nb t 0), .int .i64 (nb t 1), .own 2 2 0 (rdP t i).length, .own 3 1 0 (rdB t i x.i).length]⟩, ⟨61, true, cells encP (rdP t i)⟩, ⟨3, true, cells encI (rdB t i x.i)⟩]⟩) (fun x => m - x.i) ⟨0, Nat.zero_le _⟩ (gc [0, 1, 2, 3]) ?_
  rintro ⟨j, hj⟩
  dsimp only
  have hbl2 : (rdB t i j).length = j := by simp [rdB]
  have hb2 : ((rdB t i j).length + 1) * 8 ≤ 140737488355328 := by omega
  by_cases hjm : j < m
  · have hjm' : ((6 + 2 * i + j : Nat) : Int) < s.length := by omega
    have hsu : rdB t i j ++ [(nb t (4 + 2 * i + j) : Int)] = rdB t i (j + 1) := by
      simp only [rdB, List.range_succ, List.map_append, List.map_cons, List.map_nil]
    have hst : ((6 + 2 * i + j : Nat) : Int) + 1 = (6 + 2 * i + (j + 1) : Nat) := by omega
    have g8 : s[6 + 2 * i + j]? = some (s.getD (6 + 2 * i + j) 0) := fzS_get s _ (by omega)
    have q8 := q (4 + 2 * i + j)
    rw [show 2 + (4 + 2 * i + j) = 6 + 2 * i + j by omega] at q8
    have b8 := nbl (4 + 2 * i + j)
    have e8 : ((6 + 2 * i + j : Nat) : Int).toNat = 6 + 2 * i + j := Int.toNat_natCast _
    have F := (And.intro @hjm' (And.intro @hb2 (And.intro @g8 (And.intro @q8 (And.intro @hst @e8)))))
    refine rn F ?_
    repeat' (first
      | with_reducible exact True.intro
      | (refine vspine (id := 15) [0, 1, 2, 3, 4, 5] [⟨[6], [6], 7, [0, 2, 3, 4, 5], [8]⟩, ⟨[], [], 9, [], []⟩] (by kernel_rfl) (by kernel_rfl) ?_; refine rn F ?_))
    refine ⟨⟨j + 1, hjm⟩, by dsimp only; omega, ?_⟩
    dsimp only
    rw [← hsu, List.length_append, List.length_singleton]
    exact (gc [0, 1, 2, 5])
  obtain rfl : j = m := by omega
  have hjm' : ¬ ((6 + 2 * i + j : Nat) : Int) < s.length := by omega
  have hv := qrvalid_v (rdQ t) (by rw [hQ]; exact ⟨by dsimp only; omega, by dsimp only; omega⟩)
  rw [hQ] at hv hok
  unfold Rm.d at hv
  dsimp only at hv
  rw [decide_eq_true (show t.length = 4 + 2 * i + j by omega), Bool.true_and] at hok
  generalize hokq : (⟨nb t 0, nb t 1, rdP t i, rdB t i j⟩ : Rm).okB = b at *
  have F := @hjm'
  refine rn F ?_
  repeat' (first
    | with_reducible exact True.intro
    | refine vl F (hv) ?_
    | (refine vspine (id := 16) [0, 1] [⟨[], [], 2, [0], []⟩, ⟨[], [], 3, [1], []⟩, ⟨[], [], 4, [], []⟩] (by kernel_rfl) (by kernel_rfl) ?_; refine rn F ?_))
  exact ⟨rfl, rfl, (⟨nb t 0, nb t 1, rdP t i, rdB t i j⟩, b), rfl, by rw [hbl, hok], fun _ => hQ.symm⟩
end Go.Proofs.Ytnilcppifcekmaa
namespace Go.Proofs.Ytnilcppifcekmaa
open Go.V Go
def Rz : Rm := ⟨0, 0, [], []⟩
def latN (es : List E) : Nat → Rm × Int × Bool
  | 0 => (Rz, 0, false)
  | n + 1 => if hitE (es.getD n E0) = true then (rdQ ((es.getD n E0).blob.drop 2), (es.getD n E0).lsn, true) else latN es n
def latS (x : Lg) : Rm × Int × Bool := if lgB x = true then latN x.es x.es.length else (Rz, 0, false)
theorem latN_none {es : List E} : ∀ {n : Nat}, (∀ i, i < n → hitE (es.getD i E0) = false) → latN es n = (Rz, 0, false)
  | 0, _ => rfl
  | n + 1, h => by rw [latN, if_neg (by rw [h n (by omega)]; decide)]; exact latN_none fun i hi => h i (by omega)
theorem latN_hit {es : List E} {i : Nat} (hh : hitE (es.getD i E0) = true) : ∀ {n : Nat}, i < n → (∀ j, i < j → j < n → hitE (es.getD j E0) = false) → latN es n = (rdQ ((es.getD i E0).blob.drop 2), (es.getD i E0).lsn, true)
  | n + 1, hi, h => by
    rw [latN]
    by_cases e : i = n
    · subst e; rw [if_pos hh]
    · rw [if_neg (by rw [h n (by omega) (by omega)]; decide)]; exact latN_hit hh (by omega) fun j h1 h2 => h j h1 (by omega)
theorem blob_len {x : Lg} (h : lgB x = true) {i : Nat} (hi : i < x.es.length) (hk : (x.es.getD i E0).kind = 8) : (x.es.getD i E0).blob.length ≤ 8192 := by
  unfold lgB at h
  simp only [Bool.and_eq_true, List.all_eq_true, List.mem_range] at h
  have := h.2 i hi
  simp only [lgC, Bool.and_eq_true] at this
  have h2 := this.2
  generalize x.es.getD i E0 = e at *
  unfold E.okB at h2
  simp only [Bool.and_eq_true] at h2
  have h3 := h2.2
  unfold E.kindB at h3
  rw [hk] at h3
  simp at h3
  omega
@[go_sem] def laD (a : Rm × Int × Bool) : DV := .tup [.agg a.1.c, .int .i64 a.2.1, .bool a.2.2]
structure Lk (es : List E) where
  k : Nat
  hk : k ≤ es.length
  he : latN es es.length = latN es k
theorem rlatest_v (x : Lg) (hx : x.es.length ≤ 9223372036854775807) : VCalls Try.prog 14 [.agg x.c] [] (Ret (laD (latS x))) := by
  refine dk Try.func14 ?_
  have c1 := rlvalid_v x hx
  have hd := @lgB_hd x
  simp only [Lg.hd] at hd
  have hbl := fun h i => @blob_len x h i
  have e0 : latS x = if lgB x = true then latN x.es x.es.length else (Rz, 0, false) := rfl
  (unfold Try.f14; refine rn trivial ?_)
  cases hv : lgB x
  · rw [hv] at c1 e0
    rw [e0]
    have F := trivial
    refine rn F ?_
    repeat' (first
      | with_reducible exact True.intro
      | refine vp F (c1) ?_)
    all_goals rfl
  rw [hv] at c1 e0
  rw [if_pos rfl] at e0
  rw [e0]
  replace hd := hd hv
  have hbl := fun i => hbl hv i
  obtain ⟨f, es, d⟩ := x
  dsimp only at hd hbl hx ⊢
  have hlen : es.length ≤ 4096 := hd.2.2.1
  have F := trivial
  refine rn F ?_
  repeat' (first
    | with_reducible exact True.intro
    | refine vp F (c1) ?_)
  refine vloopW (fun s : Lk es => ⟨46, 0, [(5, .int .i64 ((s.k : Int) - 1)), (2, .ptr 1 0), (1, .ptr 0 0)], [⟨28, true, Lg.c ⟨f, es, d⟩⟩, ⟨34, true, [.int .i64 0, .int .i64 0, .pv (.slc []), .pv (.slc [])]⟩]⟩) (fun s => s.k) ⟨es.length, Nat.le_refl _, rfl⟩ (gc [0, 1]) ?_
  rintro ⟨k, hk, he⟩
  dsimp only
  rw [he]
  by_cases hk0 : 0 < k
  rotate_left
  · obtain rfl : k = 0 := by omega
    have F := trivial
    (refine rn F ?_; try with_reducible exact True.intro)
    all_goals rfl
  obtain ⟨i, rfl⟩ : ∃ i, k = i + 1 := ⟨k - 1, by omega⟩
  have e1 : ((i + 1 : Nat) : Int) - 1 = i := by omega
  have hg := fzE_g es i (by omega)
  have c2 := parse_v (es.getD i E0).blob
  have hb8 := hbl i (by omega)
  by_cases h8 : (es.getD i E0).kind = 8
  rotate_left
  · have hno : latN es (i + 1) = latN es i := by rw [latN, if_neg (by unfold hitE; rw [decide_eq_false h8]; simp)]
    have F := (And.intro @e1 (And.intro @hg @h8))
    (refine rn F ?_; try with_reducible exact True.intro)
    all_goals first | exact ⟨⟨i, by omega, he.trans hno⟩, by dsimp only; omega, (gc [0, 1])⟩ | skip
  have F := (And.intro @e1 (And.intro @hg @h8))
  refine rn F ?_
  repeat' (first
    | with_reducible exact True.intro
    | (refine sB F ?_ ?_ <;> intro hZ)
    | (refine vc_S (c2 (Nat.le_trans (hb8 h8) (by decide))) rfl ?_; rintro ⟨r, ok⟩ hq; refine rn F ?_)
    | (refine vspine (id := 9) [0, 1, 2, 3, 4, 5, 6] [⟨[], [], 7, [1, 2, 3, 4, 5, 6], []⟩, ⟨[], [], 8, [], []⟩, ⟨[], [], 9, [], []⟩] (by kernel_rfl) (by kernel_rfl) ?_; refine rn F ?_))
  · have hh : hitE (es.getD i E0) = true := by
      have h1 := hq.1
      dsimp only at h1
      unfold hitE; rw [decide_eq_true h8, ← h1]; simpa using hZ
    have hr := hq.2 (by simpa using hZ)
    dsimp only at hr
    subst hr
    rw [latN, if_pos hh]
  · have hh : ¬ hitE (es.getD i E0) = true := by
      have h1 := hq.1
      dsimp only at h1
      unfold hitE; rw [decide_eq_true h8, ← h1]; simp [hZ]
    exact ⟨⟨i, by omega, he.trans (by rw [latN, if_neg hh])⟩, by dsimp only; omega, (gc [0, 1])⟩
end Go.Proofs.Ytnilcppifcekmaa
namespace Go.Proofs.Ytnilcppifcekmaa
open Go.V Go
theorem back_v (es : List E) : VCalls Try.prog 29 [.pv (.sl (fz encE es))] [] (fun r h' => r = .fn (.func 52) [] [.ptr 0 0] ∧ h' = [⟨26, true, [.pv (.sl (fz encE es))]⟩]) := by
  refine vcalls_keep (fn := Try.f29) Try.func29 rfl (by kernel_rfl) (by simp [Try.f29]) ?_
  (unfold Try.f29; refine rn trivial ?_; try with_reducible exact True.intro)
theorem iter_v (es : List E) (hl : es.length ≤ 4096) {hp : Heap} {kb : Nat} (hkb : hp[kb]? = some ⟨26, true, [.pv (.sl (fz encE es))]⟩) : VDown Try.prog 52 (.ptr kb 0) hp (fz encE es) := by
  refine viter8 Try.func52 rfl rfl rfl rfl rfl rfl rfl rfl rfl ?_ ?_ ?_ ?_ ?_ ?_ ?_ hkb
  · decide +kernel
  · intro i hi
    rw [fz_len] at hi
    rw [List.getD_eq_getElem?_getD, fz_getD encE es E0 i hi]
    rfl
  · intro l
    have hll := fz_len encE es
    (refine rn @hll ?_; try with_reducible exact True.intro)
  · intro l k hk
    unfold itS
    by_cases h0 : 0 < k
    · have h0' : (0 : Int) ≤ (k : Int) - 1 := by omega
      rw [decide_eq_true h0]
      (refine rn @h0' ?_; try with_reducible exact True.intro)
    · have h0' : ¬ (0 : Int) ≤ (k : Int) - 1 := by omega
      rw [decide_eq_false h0]
      (refine rn @h0' ?_; try with_reducible exact True.intro)
  · intro l k h0 hk
    unfold itS
    rw [fz_len] at hk
    (refine rn trivial ?_; try with_reducible exact True.intro)
  · intro l k h0 hk
    unfold itS
    rw [fz_len] at hk
    obtain ⟨i, rfl⟩ : ∃ i, k = i + 1 := ⟨k - 1, by omega⟩
    have e1 : ((i + 1 : Nat) : Int) - 1 = i := by omega
    have hg := fzE_g es i (by omega)
    have he : elemD (fz encE es) (i + 1 - 1) = .agg ((encE.enc (es.getD i E0)).map .pv) := by
      unfold elemD
      rw [Nat.add_sub_cancel, List.getD_eq_getElem?_getD, fz_getD encE es E0 i (by omega)]; rfl
    rw [he]
    refine rn (And.intro @e1 @hg) ?_
    rfl
  · intro k b
    (refine rn trivial ?_; try with_reducible exact True.intro)
theorem reb_mk (a b : Nat) (tm : List (Nat × DV)) (hp : Heap) : (⟨a, b, tm, hp⟩ : St).reb = ⟨a, hp.length, tm, hp⟩ := rfl
attribute [go_sem] reb_mk
theorem vc_back {es : List E} {hp : Heap} {K : DV → Heap → Prop} (hK : K (.fn (.func 52) [] [.ptr hp.length 0]) (hp ++ [⟨26, true, [.pv (.sl (fz encE es))]⟩])) : VCalls Try.prog 29 [.pv (.sl (fz encE es))] hp K := by
  refine (VCalls.frame [] (by simp) rfl rfl (back_v es) rfl rfl).mono ?_
  rintro r h2 ⟨r0, h', ⟨rfl, rfl⟩, -, rfl, rfl⟩
  have e0 : List.map (fun k => hp[k]?.getD default) (List.range hp.length) = hp := by
    apply List.ext_getElem (by simp)
    intro i h1 h2
    simp [h2]
  have e1 : behind hp [] [(⟨26, true, [.pv (.sl (fz encE es))]⟩ : Blk)] = hp ++ [⟨26, true, [.pv (.sl (fz encE es))]⟩] := by
    simp [behind, renB, DV.ren]
    try exact e0
  have e2 : DV.ren (back [] hp.length) (.fn (.func 52) [] [.ptr 0 0]) = .fn (.func 52) [] [.ptr hp.length 0] := by simp [DV.ren, DV.ren.go, back]
  rw [e1, e2]; exact hK
theorem latest_v (x : Lg) (hx : x.es.length ≤ 9223372036854775807) : VCalls Try.prog 13 [.agg x.c] [] (Ret (laD (latS x))) := by
  refine vcalls_downK (fn := Try.f13) Try.func13 rfl (by kernel_rfl) (by simp [Try.f13]) ?_
  have c1 := jvalid_v x hx
  have hd := @lgB_hd x
  simp only [Lg.hd] at hd
  have hbl := fun h i => @blob_len x h i
  have e0 : latS x = if lgB x = true then latN x.es x.es.length else (Rz, 0, false) := rfl
  refine VWp0.first ?_
  (unfold Try.f13; refine rn trivial ?_)
  refine VWp0.first ?_
  refine rn trivial ?_
  cases hv : lgB x
  · rw [hv] at c1 e0
    rw [e0]
    have F := trivial
    refine rn F ?_
    repeat' (first
      | with_reducible exact True.intro
      | refine vp F (c1) ?_)
    all_goals rfl
  rw [hv] at c1 e0
  rw [if_pos rfl] at e0
  rw [e0]
  replace hd := hd hv
  have hbl := fun i => hbl hv i
  obtain ⟨f, es, d⟩ := x
  dsimp only at hd hbl hx ⊢
  have hlen : es.length ≤ 4096 := hd.2.2.1
  have F := trivial
  refine rn F ?_
  repeat' (first
    | with_reducible exact True.intro
    | refine vp F (c1) ?_)
  refine VWp0.then (VWp0.first ?_)
  refine rn trivial ?_
  refine vc_back ?_
  refine rn trivial ?_
  refine VWp0.block ?_
  refine VWp0.down (xs := fz encE es) (fn := Try.f52) rfl Try.func52 (by kernel_rfl) (by kernel_rfl) (iter_v es hlen rfl) (by show 16 < 32; decide) (by show 17 < 32; decide) ?_ (fun i => hitE (es.getD i E0))
    (fun i hp' => ∃ r, hp' = [⟨28, true, [.int .i64 f, .pv (.sl (fz encE es)), .int .i64 d]⟩, ⟨34, true, (rdQ ((es.getD i E0).blob.drop 2)).c⟩, ⟨3, true, [.int .i64 (es.getD i E0).lsn]⟩, ⟨4, true, [.bool true]⟩, ⟨26, true, [.pv (.sl (fz encE es))]⟩, ⟨41, true, (es.getD i E0).d⟩, ⟨34, true, Rm.c r⟩]) (by kernel_rfl) (BodyOf.cut (K := 77) (by kernel_rfl) ?_ (by
      first
        | (repeat' constructor)
        | skip)) ?_ ?_ ?_
  · intro k B h
    rcases k with _ | _ | _ | _ | _ | k <;> simp at h <;> subst h <;> rfl
  · decide +kernel
  · intro i hi
    rw [fz_len] at hi
    have he : elemD (fz encE es) i = .agg (es.getD i E0).d := by
      unfold elemD
      rw [List.getD_eq_getElem?_getD, fz_getD encE es E0 i hi]; rfl
    rw [he]
    have c2 := read_v (es.getD i E0).blob
    have hb8 := hbl i hi
    unfold downRound vcut1
    by_cases h8 : (es.getD i E0).kind = 8
    rotate_left
    · have hno : hitE (es.getD i E0) = false := by unfold hitE; rw [decide_eq_false h8]; rfl
      have F := @h8
      refine rn F ?_
      exact hno
    have F := @h8
    refine rn F ?_
    repeat' (first
      | with_reducible exact True.intro
      | (refine sB F ?_ ?_ <;> intro hZ)
      | (refine vc_S (c2 (Nat.le_trans (hb8 h8) (by decide))) rfl ?_; rintro ⟨r, ok⟩ hq; refine rn F ?_))
    · have h1 := hq.1
      dsimp only at h1
      have hr := hq.2 (by simpa using hZ)
      dsimp only at hr
      subst hr
      refine ⟨?_, _, rfl⟩
      unfold hitE; rw [decide_eq_true h8, ← h1]; simpa using hZ
    · have h1 := hq.1
      dsimp only at h1
      unfold hitE; rw [decide_eq_true h8, ← h1]; simp [hZ]
  · intro hno
    rw [latN_none (fun i hi => hno i (by rw [fz_len]; exact hi))]
    refine VWpE.plain ?_
    refine rn trivial ?_
    rfl
  · rintro i hp' hi hh hno ⟨r, rfl⟩
    rw [fz_len] at hi
    rw [latN_hit hh hi (fun j h1 h2 => hno j h1 (by rw [fz_len]; exact h2))]
    (refine rn trivial ?_; try with_reducible exact True.intro)
end Go.Proofs.Ytnilcppifcekmaa
namespace Go.Proofs.Ytnilcppifcekmaa
open Go.V Go
theorem find_at (l : List Pl) (q : Pl → Bool) (i : Nat) (hi : i < l.length) (h1 : q l[i] = true) (h2 : ∀ j, ∀ hj : j < l.length, j < i → q l[j] = false) : l.find? q = some l[i] :=
  List.find?_eq_some_iff_getElem.2 ⟨h1, i, hi, rfl, fun j hj => by rw [h2 j (by omega) hj]; rfl⟩
theorem find_no (l : List Pl) (q : Pl → Bool) (h2 : ∀ j, ∀ hj : j < l.length, q l[j] = false) : l.find? q = none := by
  rw [List.find?_eq_none]
  intro x hx
  obtain ⟨j, hj, rfl⟩ := List.getElem_of_mem hx
  rw [h2 j hj]; decide
theorem rwhere_v (r : Rm) (hs : r.sm) (y : Int) : VCalls Try.prog 64 [.agg r.d, .int .i64 y] [] (Ret (if r.okB = true then if y < 0 ∨ r.pages ≤ y then .tup [.int .i64 0, .int .i64 1] else .tup [.int .i64 (r.whereS y), .int .i64 0] else .tup [.int .i64 0, .int .i64 48])) := by
  refine dd Try.func64 ?_
  have hv := qrvalid_v r hs
  obtain ⟨B, hB⟩ : ∃ B, B = r.okB := ⟨_, rfl⟩
  rw [← hB] at hv ⊢
  obtain ⟨pages, spares, places, bad⟩ := r
  obtain ⟨hs1, hs2⟩ := hs
  dsimp only [Rm.d] at *
  obtain ⟨w, hw⟩ : ∃ w, w = Rm.whereS ⟨pages, spares, places, bad⟩ y := ⟨_, rfl⟩
  rw [← hw]
  simp (config := { maxSteps := 2000000 }) (implicitDefEqProofs := false) (disch := first | omega | assumption | (simp only []; done) | fail) only [vop_assign, vcallee_assign, vop_box, vcallee_box, vop_load, vcallee_load, vcallee_value, vcal_fn, strip_pv, strip_ptr, strip_agg, strip_fn, optV_none, ev_tmp, ev_const, ev_func, ofConst_int, put_some, at_mk, fits_some, ↓look_cons, ↓vlook_t, ↓vlook_f, guard_none, ↓vrun_nil, ↓code_region, ↓code_seq, ↓onNormal_normal, load_ptr, vld_agg, blk_zero, box_eq, allOne_nil, allOne_cons, one_pv, enum_nil, enum_cons, evG_eq, ↓vrun_cons, ↓run1_some, ↓runG_true, ↓run2_none, ↓run2_some, ↓run3_some, at_hp, List.map_nil, dcells, List.toList_toArray, List.length_cons, List.length_nil, List.map_cons, List.map_nil, List.nil_append, List.append_nil, List.take_succ_cons, List.take_nil, List.drop_zero, Option.map_some, ↓reduceIte, Nat.reduceAdd, Nat.reduceLT, Nat.reduceBEq, Int.reduceLT, Int.reduceAdd, Int.reduceBEq, Nat.zero_add, true_and, and_self, Bool.true_and, Bool.and_self, beq_self_eq_true, Nat.le_refl, Try.vt34, dec_t, Try.f64]
  skip
  repeat' (first
    | (refine vrunG_split (fun hZ => ?_) (fun hZ => ?_) <;> (try rw [hZ]) <;> (try simp only [decide_eq_true_eq, decide_eq_false_iff_not, Bool.or_eq_true, Bool.and_eq_true, Bool.or_eq_false_iff, Bool.and_eq_false_imp, Bool.not_eq_true', Bool.not_eq_false', beq_iff_eq, beq_eq_false_iff_ne, bne_iff_ne, bne_eq_false_iff_eq, ne_eq, Bool.not_eq_eq_eq_not, Bool.not_true, Bool.not_false] at hZ) <;> (try (first | rw [(hZ : _ = false)] | rw [(hZ : _ = true)])) <;> (try simp (config := { maxSteps := 2000000 }) (implicitDefEqProofs := false) (disch := first | omega | assumption | (simp only []; done) | fail) only [vop_move, vcallee_move, vop_assign, vcallee_assign, vop_pick, vcallee_pick, vop_load, vcallee_load, vop_binOp, vcallee_binOp, vop_fieldAddr, vcallee_fieldAddr, bin2_tmp, vpick_bool, strip_pv, strip_ptr, strip_tup, strip_opt, vstr_true, optV_none, optV_some, pickV_bool, ev_tmp, ev_const, ofConst_int, ofConst_bool, put_some, at_mk, fits_some, ↓look_cons, ↓vlook_t, ↓vlook_f, guard_none, guard_some, vgof_bool, ↓vrun_nil, ↓code_region, ↓code_seq, ↓code_ret, ↓onNormal_normal, ↓onNormal_ret, frz_tup, frzT_pv, allSome_nil, allSome_cons, frzHeap_zero, res_two, vres_tmp, load_ptr, vld_one, blk_zero, faddr_ptr, vfap_some, bin_int, int_geq, evG_eq, ↓vrun_cons, ↓run1_some, ↓runG_true, ↓runG_false, ↓run2_none, ↓run3_some, ↓code_cond, ↓vtest_bool, ↓vbr_true, ↓vpost_ret, vfin_some, vfin2_some, at_hp, pickV_t, List.map_nil, List.getElem?_cons_zero, List.getElem?_cons_succ, List.map_cons, List.map_nil, Option.map_some, Option.bind_some, ↓reduceIte, reduceCtorEq, Nat.reduceLT, Nat.reduceBEq, Int.reduceLT, Int.reduceBEq, Nat.add_zero, true_and, and_self, or_true, Bool.not_true, Bool.not_false, Bool.or_true, Bool.true_and, Bool.and_self, b_beq_f, cond_false, beq_self_eq_true, DV.wk.go, Try.vt3, Try.vfield34x0, dec_t, dec_f, Ret, DV.nums, DV.nums.go]))
    | (refine vbr_split (fun hZ => ?_) (fun hZ => ?_) <;> (try rw [hZ]) <;> (try simp only [decide_eq_true_eq, decide_eq_false_iff_not, Bool.or_eq_true, Bool.and_eq_true, Bool.or_eq_false_iff, Bool.and_eq_false_imp, Bool.not_eq_true', Bool.not_eq_false', beq_iff_eq, beq_eq_false_iff_ne, bne_iff_ne, bne_eq_false_iff_eq, ne_eq, Bool.not_eq_eq_eq_not, Bool.not_true, Bool.not_false] at hZ) <;> (try (first | rw [(hZ : _ = false)] | rw [(hZ : _ = true)])) <;> (try simp (config := { maxSteps := 2000000 }) (implicitDefEqProofs := false) (disch := first | omega | assumption | (simp only []; done) | fail) only [vop_move, vcallee_move, vop_assign, vcallee_assign, vop_binOp, vcallee_binOp, bin2_int, strip_pv, optV_none, ev_tmp, ev_const, ofConst_int, put_some, at_mk, fits_some, ↓look_cons, ↓vlook_t, ↓vlook_f, guard_none, guard_some, vgof_bool, ↓vrun_nil, ↓code_skip, ↓code_region, ↓code_seq, ↓code_block, ↓code_loop, ↓code_ret, ↓onNormal_normal, ↓onNormal_ret, frz_tup, frzT_pv, allSome_nil, allSome_cons, frzHeap_zero, res_two, vres_tmp, bin_int, int_lss, evG_eq, ↓vrun_cons, ↓run1_some, ↓runG_true, ↓run2_none, ↓run3_some, ↓vpost_ret, vfin_some, vfin2_some, at_hp, List.map_nil, List.getElem?_cons_zero, List.getElem?_cons_succ, List.map_cons, List.map_nil, Option.map_some, Option.bind_some, ↓reduceIte, Bool.false_eq_true, Nat.reduceLT, Nat.reduceBEq, Int.reduceLT, Int.reduceBEq, true_and, and_self, Bool.true_and, Bool.and_self, b_beq_f, beq_self_eq_true, DV.wk.go, dec_t, Ret, DV.nums, DV.nums.go]))
    | (refine vdrG_split (fun hZ => ?_) (fun hZ => ?_) <;> (try rw [hZ]) <;> (try simp only [decide_eq_true_eq, decide_eq_false_iff_not, Bool.or_eq_true, Bool.and_eq_true, Bool.or_eq_false_iff, Bool.and_eq_false_imp, Bool.not_eq_true', Bool.not_eq_false', beq_iff_eq, beq_eq_false_iff_ne, bne_iff_ne, bne_eq_false_iff_eq, ne_eq, Bool.not_eq_eq_eq_not, Bool.not_true, Bool.not_false] at hZ) <;> (try (first | rw [(hZ : _ = false)] | rw [(hZ : _ = true)])) <;> skip)
    | (refine vc_pure (hv) rfl ?_; (try simp (config := { maxSteps := 2000000 }) (implicitDefEqProofs := false) (disch := first | omega | assumption | (simp only []; done) | fail) only [vop_unOp, vcallee_unOp, strip_pv, optV_none, ev_tmp, put_some, at_mk, fits_some, ↓look_cons, ↓vlook_t, guard_none, ↓vrun_nil, ↓onNormal_normal, un_not, evG_eq, ↓vrun_cons, ↓run1_some, ↓runG_true, ↓run2_none, ↓run3_some, ↓runK_eq, ↓code_cond, ↓vtest_bool, at_hp, Option.map_some, Nat.reduceLT, Int.reduceLT, true_and, Bool.true_and, beq_self_eq_true, dec_t])))
  · rw [if_pos (by omega)]
  · rw [if_neg (by omega)]
    refine vloopW (fun s : {i : Nat // i ≤ places.length ∧ ∀ j, ∀ hj : j < places.length, j < i → ¬ places[j].pg = y} => ⟨40, 0, [(6, .int .i64 s.1), (2, .ptr 0 0), (1, .int .i64 y)], [⟨34, true, [.int .i64 pages, .int .i64 spares, .pv (.sl (fz encP places)), .pv (.sl (fz encI bad))]⟩]⟩) (fun s => places.length - s.1) ⟨0, Nat.zero_le _, fun j _ h => by omega⟩ (.inl (by refine ⟨rfl, rfl, by simp, ?_, ?_, .inr ⟨?_, ?_⟩⟩ <;> (repeat' apply And.intro) <;> first | rfl | trivial | (intro _; first | rfl | apply cells_refs))) ?_
    rintro ⟨i, hi, hn⟩
    dsimp only
    have hg := fun h : i < places.length => fzP_at places i h
    (try simp (config := { maxSteps := 2000000 }) (implicitDefEqProofs := false) (disch := first | omega | assumption | (simp only []; done) | fail) only [vop_move, vcallee_move, vop_load, vcallee_load, vop_binOp, vcallee_binOp, vop_fieldAddr, vcallee_fieldAddr, vop_builtin, vcallee_builtin, bin2_tmp, strip_pv, strip_ptr, optV_none, ev_tmp, put_some, at_mk, fits_some, ↓look_cons, ↓vlook_t, ↓vlook_f, guard_none, ↓vrun_nil, ↓code_region, ↓code_seq, ↓onNormal_normal, load_ptr, vld_one, blk_zero, faddr_ptr, vfap_some, bin_int, int_lss, len_sl, vlk_sl, bi_len, evG_eq, ↓vrun_cons, ↓run1_some, ↓runG_true, ↓run2_none, ↓run3_some, ↓code_cond, ↓vtest_bool, at_hp, List.map_nil, List.getElem?_cons_zero, List.getElem?_cons_succ, List.map_cons, List.map_nil, Option.map_some, ↓reduceIte, reduceCtorEq, Nat.reduceLT, Nat.reduceBEq, Int.reduceLT, Int.reduceBEq, Nat.zero_add, true_and, Bool.true_and, beq_self_eq_true, fz_len, Try.vt31, Try.vkind31, Try.vfield34x2, dec_t])
    repeat' (first
      | (refine vrunG_split (fun hZ => ?_) (fun hZ => ?_) <;> (try rw [hZ]) <;> (try simp only [decide_eq_true_eq, decide_eq_false_iff_not, Bool.or_eq_true, Bool.and_eq_true, Bool.or_eq_false_iff, Bool.and_eq_false_imp, Bool.not_eq_true', Bool.not_eq_false', beq_iff_eq, beq_eq_false_iff_ne, bne_iff_ne, bne_eq_false_iff_eq, ne_eq, Bool.not_eq_eq_eq_not, Bool.not_true, Bool.not_false] at hZ) <;> (try (first | rw [(hZ : _ = false)] | rw [(hZ : _ = true)])) <;> skip)
      | (refine vbr_split (fun hZ => ?_) (fun hZ => ?_) <;> (try rw [hZ]) <;> (try simp only [decide_eq_true_eq, decide_eq_false_iff_not, Bool.or_eq_true, Bool.and_eq_true, Bool.or_eq_false_iff, Bool.and_eq_false_imp, Bool.not_eq_true', Bool.not_eq_false', beq_iff_eq, beq_eq_false_iff_ne, bne_iff_ne, bne_eq_false_iff_eq, ne_eq, Bool.not_eq_eq_eq_not, Bool.not_true, Bool.not_false] at hZ) <;> (try (first | rw [(hZ : _ = false)] | rw [(hZ : _ = true)])) <;> (try simp (config := { maxSteps := 2000000 }) (implicitDefEqProofs := false) (disch := first | omega | assumption | (simp only [List.length_cons, List.length_nil, Nat.zero_add, Nat.reduceAdd]; done) | fail) only [vop_move, vcallee_move, vop_assign, vcallee_assign, vop_load, vcallee_load, vop_binOp, vcallee_binOp, vop_fieldAddr, vcallee_fieldAddr, vop_indexAddr, vcallee_indexAddr, bin2_tmp, bin2_int, strip_pv, strip_ptr, strip_ip, optV_none, ev_tmp, ev_const, ofConst_int, put_some, at_mk, fits_some, ↓look_cons, ↓vlook_t, ↓vlook_f, guard_none, ↓vrun_nil, ↓code_skip, ↓code_region, ↓code_seq, ↓code_block, ↓code_exit, ↓code_ret, ↓onNormal_normal, ↓onNormal_ret, ↓onNormal_exit, ↓onBlock_normal, ↓onBlock_ret, ↓onBlock_exit, frz_tup, frzT_pv, allSome_nil, allSome_cons, frzHeap_zero, res_two, vres_tmp, load_ptr, load_ip, vld_one, vldp_one, blk_zero, faddr_ptr, vfap_some, faddr_ip, vfai_some, iaddr_sl, vias_some, bin_int, int_add, int_eql, evG_eq, ↓vrun_cons, ↓run1_some, ↓runG_true, ↓run2_none, ↓run3_some, ↓code_cond, ↓vtest_bool, ↓vpost_ret, vfin_some, vfin2_some, at_hp, List.map_nil, List.getElem?_cons_zero, List.getElem?_cons_succ, List.map_cons, List.map_nil, List.drop_succ_cons, List.drop_zero, Option.map_some, ↓reduceIte, reduceCtorEq, Nat.reduceLT, Nat.reduceBEq, Int.reduceLT, Int.reduceBEq, Int.toNat_natCast, Nat.zero_add, true_and, and_self, Bool.true_and, Bool.and_self, beq_self_eq_true, DV.wk.go, Try.vt3, Try.vt31, Try.velem31, Try.vfield34x2, Try.vfield61x0, Try.vfield61x1, wrap_i64_in, dec_t, Ret, DV.nums, DV.nums.go, hg]))
      | (refine vdrG_split (fun hZ => ?_) (fun hZ => ?_) <;> (try rw [hZ]) <;> (try simp only [decide_eq_true_eq, decide_eq_false_iff_not, Bool.or_eq_true, Bool.and_eq_true, Bool.or_eq_false_iff, Bool.and_eq_false_imp, Bool.not_eq_true', Bool.not_eq_false', beq_iff_eq, beq_eq_false_iff_ne, bne_iff_ne, bne_eq_false_iff_eq, ne_eq, Bool.not_eq_eq_eq_not, Bool.not_true, Bool.not_false] at hZ) <;> (try (first | rw [(hZ : _ = false)] | rw [(hZ : _ = true)])) <;> skip))
    · rw [hw, Rm.whereS, find_at places _ i (by omega) (by simpa using hZ) (fun j hj h => by simpa using hn j hj h)]
    · refine ⟨⟨i + 1, by omega, fun j hj h => ?_⟩, by show places.length - (i + 1) < places.length - i; omega, (by refine gc_of (keep := [0]) rfl rfl rfl (by decide) ?_ ?_ <;> (repeat' apply And.intro) <;> first | trivial | rfl | exact ⟨_, rfl, rfl, rfl, .inl ⟨rfl, rfl⟩⟩ | exact ⟨_, rfl, rfl, rfl, .inl ⟨cells_nums _ _ _, rfl⟩⟩ | exact ⟨_, rfl, rfl, rfl, .inl ⟨pvs_nums _ _, rfl⟩⟩ | exact ⟨_, rfl, rfl, rfl, .inr ⟨rfl, rfl⟩⟩)⟩
      rcases Nat.lt_or_ge j i with h2 | h2
      · exact hn j hj h2
      · have h3 : j = i := by omega
        subst h3; exact hZ
    · rw [hw, Rm.whereS, find_no places _ (fun j hj => by simpa using hn j hj (by omega))]
  · rw [if_pos (by omega)]
theorem own_where (r : Rm) (h : r.Ok) (a n : Int) (e : r.ownerS a = some n) : r.whereS n = a := by
  unfold Rm.ownerS at e
  split at e
  · cases e
  · rename_i h1
    split at e
    · rename_i h2
      cases e
      have hb : ¬ a ∈ r.bad := fun hb => h1 (.inr hb)
      unfold Rm.whereS
      cases hf : r.places.find? fun p => p.pg == a with
      | none => rfl
      | some p =>
        have hm := List.mem_of_find?_eq_some hf
        have he := List.find?_some hf
        simp only [beq_iff_eq] at he
        exact absurd ((places_bad r h a h2).2 (he ▸ List.mem_map.2 ⟨p, hm, rfl⟩)) hb
    · cases hf : (r.places.find? fun p => p.ad == a) with
      | none => rw [hf] at e; cases e
      | some p =>
        rw [hf] at e
        have hm := List.mem_of_find?_eq_some hf
        have he := List.find?_some hf
        simp only [beq_iff_eq] at he
        simp only [Option.map_some, Option.some.injEq] at e
        subst e
        unfold Rm.whereS
        cases hg : r.places.find? fun q => q.pg == p.pg with
        | none => rw [List.find?_eq_none] at hg; exact absurd (show (p.pg == p.pg) = true by simp) (hg p hm)
        | some q =>
          have hq := List.find?_some hg
          simp only [beq_iff_eq] at hq
          have := pg_inj r h q p (List.mem_of_find?_eq_some hg) hm hq
          subst this
          exact he
theorem rowner_v (r : Rm) (hs : r.sm) (a : Int) : VCalls Try.prog 43 [.agg r.d, .int .i64 a] [] (Ret (ownD (if r.okB = true then r.ownerS a else none))) := by
  refine dd Try.func43 ?_
  have hv := qrvalid_v r hs
  have hw : ∀ y, r.okB = true → 0 ≤ y → y < r.pages → VCalls Try.prog 64 [.agg r.d, .int .i64 y] [] (Ret (.tup [.int .i64 (r.whereS y), .int .i64 0])) := fun y h1 h2 h3 => by
    have := rwhere_v r hs y
    rwa [if_pos h1, if_neg (by omega)] at this
  have hwo : ∀ y, r.okB = true → 0 ≤ y → y < r.pages → r.whereS y = a → r.ownerS a = some y := fun y h1 h2 h3 h4 => h4 ▸ (where_ok r ((ok_iff r).1 h1) y h2 h3).2.2.2
  have how : r.okB = true → ∀ n, r.ownerS a = some n → r.whereS n = a := fun h1 n e => own_where r ((ok_iff r).1 h1) a n e
  have hrg : r.okB = true → ∀ n, r.ownerS a = some n → 0 ≤ n ∧ n < r.pages := fun h1 n e => owner_rng r ((ok_iff r).1 h1) a n e
  have hpl : r.okB = true → r.pages ≤ 64 := fun h1 => ((ok_iff r).1 h1).p2
  generalize r.okB = B at *
  generalize r.ownerS a = o at *
  generalize r.whereS = W at *
  obtain ⟨pages, spares, places, bad⟩ := r
  dsimp only [Rm.d] at *
  simp (config := { maxSteps := 2000000 }) (implicitDefEqProofs := false) (disch := first | omega | assumption | (simp only []; done) | fail) only [vop_assign, vcallee_assign, vop_box, vcallee_box, strip_pv, strip_agg, optV_none, ev_tmp, ev_const, ofConst_int, ofConst_bool, put_some, at_mk, fits_some, ↓look_cons, ↓vlook_t, guard_none, ↓vrun_nil, ↓code_region, ↓code_seq, ↓code_block, ↓code_loop, ↓onNormal_normal, box_eq, allOne_nil, allOne_cons, one_pv, enum_nil, enum_cons, evG_eq, ↓vrun_cons, ↓run1_some, ↓runG_true, ↓run2_none, ↓run3_some, at_hp, dcells, List.toList_toArray, List.length_nil, List.nil_append, ↓reduceIte, Nat.reduceAdd, Nat.reduceLT, Int.reduceLT, Int.reduceAdd, Nat.zero_add, true_and, and_self, Bool.true_and, Bool.and_self, beq_self_eq_true, dec_t, Try.f43]
  refine vloopW (fun s : {i : Nat // (i : Int) ≤ 64 ∧ ∀ j : Nat, j < i → (j : Int) < pages ∧ ¬ W j = a} => ⟨29, 0, [(6, .int .i64 s.1), (2, .ptr 0 0), (1, .int .i64 a)], [⟨34, true, [.int .i64 pages, .int .i64 spares, .pv (.sl (fz encP places)), .pv (.sl (fz encI bad))]⟩]⟩) (fun s => 64 - s.1) ⟨0, by omega, fun j h => by omega⟩ (.inl (by refine ⟨rfl, rfl, by simp, ?_, ?_, .inr ⟨?_, ?_⟩⟩ <;> (repeat' apply And.intro) <;> first | rfl | trivial | (intro _; first | rfl | apply cells_refs))) ?_
  rintro ⟨i, hi, hn⟩
  dsimp only
  (try simp (config := { maxSteps := 2000000 }) (implicitDefEqProofs := false) (disch := first | omega | assumption | (simp only []; done) | fail) only [vop_move, vcallee_move, vop_load, vcallee_load, vop_binOp, vcallee_binOp, vop_fieldAddr, vcallee_fieldAddr, bin2_tmp, strip_pv, strip_ptr, optV_none, ev_tmp, put_some, at_mk, fits_some, ↓look_cons, ↓vlook_t, ↓vlook_f, guard_none, guard_some, vgof_bool, ↓code_region, ↓code_seq, load_ptr, vld_one, blk_zero, faddr_ptr, vfap_some, bin_int, int_lss, evG_eq, ↓vrun_cons, ↓run1_some, ↓runG_true, ↓run2_none, ↓run3_some, at_hp, List.getElem?_cons_zero, List.getElem?_cons_succ, Option.map_some, Option.bind_some, ↓reduceIte, reduceCtorEq, Nat.reduceLT, Nat.reduceBEq, Int.reduceLT, Int.reduceBEq, Nat.add_zero, true_and, Bool.true_and, b_beq_t, beq_self_eq_true, Try.vt3, Try.vfield34x0, dec_t])
  repeat' (first
    | (refine vrunG_split (fun hZ => ?_) (fun hZ => ?_) <;> (try rw [hZ]) <;> (try simp only [decide_eq_true_eq, decide_eq_false_iff_not, Bool.or_eq_true, Bool.and_eq_true, Bool.or_eq_false_iff, Bool.and_eq_false_imp, Bool.not_eq_true', Bool.not_eq_false', beq_iff_eq, beq_eq_false_iff_ne, bne_iff_ne, bne_eq_false_iff_eq, ne_eq, Bool.not_eq_eq_eq_not, Bool.not_true, Bool.not_false] at hZ) <;> (try (first | rw [(hZ : _ = false)] | rw [(hZ : _ = true)])) <;> (try simp (config := { maxSteps := 2000000 }) (implicitDefEqProofs := false) (disch := first | omega | assumption | (simp only []; done) | fail) only [vop_assign, vcallee_assign, vop_pick, vcallee_pick, vop_load, vcallee_load, vcallee_value, vcal_fn, vpick_bool, strip_pv, strip_ptr, strip_tup, strip_fn, strip_opt, vstr_true, optV_none, optV_some, ev_tmp, ev_const, ev_func, ofConst_int, ofConst_bool, put_some, at_mk, fits_some, ↓look_cons, ↓vlook_t, ↓vlook_f, guard_none, guard_some, vgof_bool, ↓vrun_nil, ↓code_region, ↓code_seq, ↓code_exit, ↓code_ret, ↓onNormal_normal, ↓onNormal_exit, ↓onBlock_exit, frz_tup, frzT_pv, allSome_nil, allSome_cons, frzHeap_zero, res_two, vres_tmp, load_ptr, vld_agg, blk_zero, evG_eq, ↓vrun_cons, ↓run1_some, ↓runG_true, ↓runG_false, ↓run2_none, ↓run2_some, ↓run3_some, ↓code_cond, ↓vtest_bool, ↓vbr_false, ↓vpost_ret, vfin_some, vfin2_some, at_hp, pickV_f, List.map_nil, List.getElem?_cons_zero, List.getElem?_cons_succ, List.length_cons, List.length_nil, List.map_cons, List.map_nil, List.nil_append, List.append_nil, List.take_succ_cons, List.take_nil, List.drop_zero, Option.map_some, Option.bind_some, ↓reduceIte, Nat.reduceAdd, Nat.reduceLT, Nat.reduceBEq, Int.reduceLT, Int.reduceAdd, Int.reduceBEq, Nat.zero_add, true_and, and_self, or_true, Bool.not_true, Bool.not_false, Bool.or_true, Bool.true_and, Bool.and_self, b_beq_t, beq_self_eq_true, Nat.le_refl, DV.wk.go, Try.vt34, dec_t, Ret, DV.nums, DV.nums.go]))
    | (refine vbr_split (fun hZ => ?_) (fun hZ => ?_) <;> (try rw [hZ]) <;> (try simp only [decide_eq_true_eq, decide_eq_false_iff_not, Bool.or_eq_true, Bool.and_eq_true, Bool.or_eq_false_iff, Bool.and_eq_false_imp, Bool.not_eq_true', Bool.not_eq_false', beq_iff_eq, beq_eq_false_iff_ne, bne_iff_ne, bne_eq_false_iff_eq, ne_eq, Bool.not_eq_eq_eq_not, Bool.not_true, Bool.not_false] at hZ) <;> (try (first | rw [(hZ : _ = false)] | rw [(hZ : _ = true)])) <;> (try simp (config := { maxSteps := 2000000 }) (implicitDefEqProofs := false) (disch := first | omega | assumption | (simp only []; done) | fail) only [vop_move, vcallee_move, vop_assign, vcallee_assign, vop_load, vcallee_load, vop_binOp, vcallee_binOp, vcallee_value, vcal_fn, bin2_int, strip_pv, strip_ptr, strip_agg, strip_fn, optV_none, ev_tmp, ev_const, ev_func, ofConst_int, ofConst_bool, put_some, at_mk, fits_some, ↓look_cons, ↓vlook_t, ↓vlook_f, guard_none, ↓vrun_nil, ↓code_skip, ↓code_region, ↓code_seq, ↓code_block, ↓code_exit, ↓code_ret, ↓onNormal_normal, ↓onNormal_ret, ↓onNormal_exit, ↓onBlock_normal, ↓onBlock_ret, ↓onBlock_exit, frz_tup, frzT_pv, allSome_nil, allSome_cons, frzHeap_zero, res_two, vres_tmp, load_ptr, vld_agg, blk_zero, bin_int, int_add, evG_eq, ↓vrun_cons, ↓run1_some, ↓runG_true, ↓run2_none, ↓run2_some, ↓run3_some, ↓vpost_ret, vfin_some, vfin2_some, at_hp, List.map_nil, List.length_cons, List.length_nil, List.map_cons, List.map_nil, List.nil_append, List.append_nil, List.take_succ_cons, List.take_nil, List.drop_zero, Option.map_some, ↓reduceIte, Bool.false_eq_true, Nat.reduceAdd, Nat.reduceLT, Nat.reduceBEq, Int.reduceLT, Int.reduceAdd, Int.reduceBEq, Nat.zero_add, true_and, and_self, Bool.true_and, Bool.and_self, beq_self_eq_true, Nat.le_refl, DV.wk.go, Try.vt34, wrap_i64_in, dec_t, Ret, DV.nums, DV.nums.go]))
    | (refine vdrG_split (fun hZ => ?_) (fun hZ => ?_) <;> (try rw [hZ]) <;> (try simp only [decide_eq_true_eq, decide_eq_false_iff_not, Bool.or_eq_true, Bool.and_eq_true, Bool.or_eq_false_iff, Bool.and_eq_false_imp, Bool.not_eq_true', Bool.not_eq_false', beq_iff_eq, beq_eq_false_iff_ne, bne_iff_ne, bne_eq_false_iff_eq, ne_eq, Bool.not_eq_eq_eq_not, Bool.not_true, Bool.not_false] at hZ) <;> (try (first | rw [(hZ : _ = false)] | rw [(hZ : _ = true)])) <;> skip)
    | (refine vc_pure (hv) rfl ?_; (try simp (config := { maxSteps := 2000000 }) (implicitDefEqProofs := false) (disch := first | omega | assumption | (simp only []; done) | fail) only [vop_pick, vcallee_pick, vpick_bool, strip_pv, strip_opt, vstr_true, optV_none, optV_some, pickV_bool, ev_tmp, ev_const, ofConst_bool, put_some, at_mk, fits_some, ↓look_cons, ↓vlook_t, ↓vlook_f, guard_none, ↓vrun_nil, ↓onNormal_normal, evG_eq, ↓vrun_cons, ↓run1_some, ↓runG_true, ↓run2_none, ↓run3_some, ↓runK_eq, ↓code_cond, ↓vtest_bool, at_hp, Nat.reduceLT, Nat.reduceBEq, Int.reduceLT, Int.reduceBEq, true_and, or_true, Bool.not_true, Bool.or_true, Bool.true_and, cond_true, beq_self_eq_true, dec_t]))
    | (refine vc_pure (hw i (by assumption) (by omega) (by omega)) rfl ?_; (try simp (config := { maxSteps := 2000000 }) (implicitDefEqProofs := false) (disch := first | omega | assumption | (simp only []; done) | fail) only [vop_move, vcallee_move, vop_assign, vcallee_assign, vop_binOp, vcallee_binOp, vop_extract, vcallee_extract, bin2_tmp, strip_pv, strip_tup, optV_none, ev_tmp, put_some, at_mk, fits_some, ↓look_cons, ↓vlook_t, ↓vlook_f, guard_none, ↓vrun_nil, ↓code_region, ↓code_seq, ↓onNormal_normal, bin_int, int_eql, ext_tup, evG_eq, ↓vrun_cons, ↓run1_some, ↓runG_true, ↓run2_none, ↓run3_some, ↓runK_eq, ↓code_cond, ↓vtest_bool, at_hp, List.getElem?_cons_zero, List.getElem?_cons_succ, Option.map_some, Nat.reduceLT, Nat.reduceBEq, Int.reduceLT, Int.reduceBEq, true_and, Bool.true_and, beq_self_eq_true, dec_t])))
  · have := hwo i (by assumption) (by omega) (by omega) hZ
    subst this; rfl
  · refine ⟨⟨i + 1, by have := hpl (by assumption); omega, fun j hj => ?_⟩, by have := hpl (by assumption); show 64 - (i + 1) < 64 - i; omega, (by refine gc_of (keep := [0]) rfl rfl rfl (by decide) ?_ ?_ <;> (repeat' apply And.intro) <;> first | trivial | rfl | exact ⟨_, rfl, rfl, rfl, .inl ⟨rfl, rfl⟩⟩ | exact ⟨_, rfl, rfl, rfl, .inl ⟨cells_nums _ _ _, rfl⟩⟩ | exact ⟨_, rfl, rfl, rfl, .inl ⟨pvs_nums _ _, rfl⟩⟩ | exact ⟨_, rfl, rfl, rfl, .inr ⟨rfl, rfl⟩⟩)⟩
    rcases Nat.lt_or_ge j i with h2 | h2
    · exact hn j h2
    · have h3 : j = i := by omega
      subst h3; exact ⟨by omega, hZ⟩
  · rfl
  · split
    · rename_i hB
      cases o with
      | none => rfl
      | some n =>
        have h1 := how hB n rfl
        have h2 := hrg hB n rfl
        obtain ⟨m, rfl⟩ : ∃ m : Nat, n = m := ⟨n.toNat, by omega⟩
        exact absurd h1 (hn m (by omega)).2
    · rfl
theorem own_spare (r : Rm) (h : r.Ok) (a : Int) (ha : r.pages ≤ a) : ∃ (x : Int) (c : Bool), ownD (r.ownerS a) = .tup [.int .i64 x, .bool c] ∧ ((c = true ∨ a ∈ r.bad) ↔ (a ∈ r.places.map (·.ad) ∨ a ∈ r.bad)) := by
  have hp1 := h.p1
  cases ho : r.ownerS a with
  | none =>
    refine ⟨0, false, rfl, ?_⟩
    unfold Rm.ownerS at ho
    split at ho
    · rename_i h1
      have hb : a ∈ r.bad := h1.resolve_left (by omega)
      simp [hb]
    · rename_i h1
      rw [if_neg (by omega), Option.map_eq_none_iff, List.find?_eq_none] at ho
      have hn : ¬ a ∈ r.places.map (·.ad) := fun hm => by
        obtain ⟨p, hp, e⟩ := List.mem_map.1 hm
        exact ho p hp (by simp [e])
      simp [hn]
  | some n =>
    refine ⟨n, true, rfl, ?_⟩
    unfold Rm.ownerS at ho
    split at ho
    · cases ho
    · rw [if_neg (by omega)] at ho
      cases hf : (r.places.find? fun p => p.ad == a) with
      | none => rw [hf] at ho; cases ho
      | some p =>
        have he := List.find?_some hf
        simp only [beq_iff_eq] at he
        have hm : a ∈ r.places.map (·.ad) := List.mem_map.2 ⟨p, List.mem_of_find?_eq_some hf, he⟩
        simp [hm]
theorem rfree_v (r : Rm) (h : r.Ok) (hs : r.sm) : VCalls Try.prog 44 [.agg r.d] [] (Ret (.pv (.sl (fz encI r.freeS)))) := by
  refine dd Try.func44 ?_
  have hbc := fun y => rhas_v r.bad hs.2 y
  have hwc : ∀ a, VCalls Try.prog 43 [.agg r.d, .int .i64 a] [] (Ret (ownD (r.ownerS a))) := fun a => by
    have := rowner_v r hs a
    rwa [if_pos ((ok_iff r).2 h)] at this
  have hos := own_spare r h
  have hsu := freeN_succ r
  have hfl := freeN_len r
  have p1 := h.p1
  have p2 := h.p2
  have q1 := h.s1
  have q2 := h.s2
  have q3 := h.s3
  obtain ⟨n, hn⟩ : ∃ n : Nat, r.spares = n := ⟨r.spares.toNat, by omega⟩
  have hfs : r.freeS = r.freeN n := by rw [Rm.freeS, hn]; rfl
  have hf0 : r.freeN 0 = [] := rfl
  rw [hfs]
  generalize r.ownerS = W at *
  generalize r.freeN = F at *
  obtain ⟨pages, spares, places, bad⟩ := r
  dsimp only [Rm.d] at *
  subst hn
  simp (config := { maxSteps := 2000000 }) (implicitDefEqProofs := false) (disch := first | omega | assumption | (simp only []; done) | fail) only [vop_assign, vcallee_assign, vop_box, vcallee_box, vop_load, vcallee_load, vop_fieldAddr, vcallee_fieldAddr, strip_pv, strip_ptr, strip_agg, optV_none, ev_tmp, ev_const, ofConst_slice, put_some, at_mk, fits_some, ↓look_cons, ↓vlook_t, ↓vlook_f, guard_none, ↓vrun_nil, ↓code_region, ↓code_seq, ↓code_block, ↓code_loop, ↓onNormal_normal, load_ptr, vld_one, blk_zero, box_eq, allOne_nil, allOne_cons, one_pv, faddr_ptr, vfap_some, enum_nil, enum_cons, evG_eq, ↓vrun_cons, ↓run1_some, ↓runG_true, ↓run2_none, ↓run3_some, at_hp, dcells, List.toList_toArray, List.getElem?_cons_zero, List.length_nil, List.nil_append, Option.map_some, ↓reduceIte, reduceCtorEq, Nat.reduceLT, Nat.reduceBEq, Int.reduceLT, Int.reduceBEq, Nat.zero_add, Nat.add_zero, true_and, and_self, Bool.true_and, Bool.and_self, beq_self_eq_true, Try.vt3, Try.vfield34x0, dec_t, Try.f44]
  refine VLoop.nilOwn 3 3 1 rfl ?_
  refine vloopW (fun s : {k : Nat // k ≤ n} => ⟨38, 0, [(4, .int .i64 (pages + (s.1 : Int))), (3, .own 1 1 0 (F s.1).length), (1, .ptr 0 0)], [⟨34, true, [.int .i64 pages, .int .i64 (n : Int), .pv (.sl (fz encP places)), .pv (.sl (fz encI bad))]⟩, ⟨3, true, cells encI (F s.1)⟩]⟩) (fun s => n - s.1) ⟨0, Nat.zero_le _⟩ (.inl ?_) ?_
  · dsimp only
    rw [hf0, show pages + ((0 : Nat) : Int) = pages by omega]
    exact (by refine ⟨rfl, rfl, by simp, ?_, ?_, .inr ⟨?_, ?_⟩⟩ <;> (repeat' apply And.intro) <;> first | rfl | trivial | (intro _; first | rfl | apply cells_refs))
  rintro ⟨k, hk⟩
  dsimp only
  obtain ⟨x, c, e, hc⟩ := hos (pages + (k : Int)) (by omega)
  have hw := hwc (pages + (k : Int))
  rw [e] at hw
  have hb := hbc (pages + (k : Int))
  have hsk := hsu k
  have hfk := hfl k
  have hk1 : (c = true ∨ pages + (k : Int) ∈ bad) → F (k + 1) = F k := fun g => by rw [hsk, if_pos (hc.1 g), List.append_nil]
  have hk2 : ¬ (c = true ∨ pages + (k : Int) ∈ bad) → F (k + 1) = F k ++ [pages + (k : Int)] := fun g => by rw [hsk, if_neg (fun e => g (hc.2 e))]
  clear hsk hsu hos hwc hbc
  (try simp (config := { maxSteps := 2000000 }) (implicitDefEqProofs := false) (disch := first | omega | assumption | (simp only []; done) | fail) only [vop_move, vcallee_move, vop_load, vcallee_load, vop_binOp, vcallee_binOp, vop_fieldAddr, vcallee_fieldAddr, bin2_tmp, strip_pv, strip_ptr, optV_none, ev_tmp, put_some, at_mk, fits_some, ↓look_cons, ↓vlook_t, ↓vlook_f, guard_none, ↓vrun_nil, ↓code_region, ↓code_seq, ↓onNormal_normal, load_ptr, vld_one, blk_zero, faddr_ptr, vfap_some, bin_int, int_add, int_lss, evG_eq, ↓vrun_cons, ↓run1_some, ↓runG_true, ↓run2_none, ↓run3_some, ↓code_cond, ↓vtest_bool, at_hp, List.getElem?_cons_zero, List.getElem?_cons_succ, Option.map_some, ↓reduceIte, reduceCtorEq, Nat.reduceLT, Nat.reduceBEq, Int.reduceLT, Int.reduceBEq, Nat.zero_add, Nat.add_zero, true_and, Bool.true_and, beq_self_eq_true, Try.vt3, Try.vfield34x0, Try.vfield34x1, wrap_i64_in, dec_t])
  repeat' (first
    | (refine vrunG_split (fun hZ => ?_) (fun hZ => ?_) <;> (try rw [hZ]) <;> (try simp only [decide_eq_true_eq, decide_eq_false_iff_not, Bool.or_eq_true, Bool.and_eq_true, Bool.or_eq_false_iff, Bool.and_eq_false_imp, Bool.not_eq_true', Bool.not_eq_false', beq_iff_eq, beq_eq_false_iff_ne, bne_iff_ne, bne_eq_false_iff_eq, ne_eq, Bool.not_eq_eq_eq_not, Bool.not_true, Bool.not_false] at hZ) <;> (try (first | rw [(hZ : _ = false)] | rw [(hZ : _ = true)])) <;> (try simp (config := { maxSteps := 2000000 }) (implicitDefEqProofs := false) (disch := first | omega | assumption | (simp only []; done) | fail) only [vop_move, vcallee_move, vop_assign, vcallee_assign, vop_pick, vcallee_pick, vop_load, vcallee_load, vop_binOp, vcallee_binOp, vop_fieldAddr, vcallee_fieldAddr, vcallee_value, vcal_fn, bin2_int, vpick_bool, strip_pv, strip_ptr, strip_tup, strip_fn, strip_opt, vstr_true, optV_none, optV_some, ev_tmp, ev_const, ev_func, ofConst_int, ofConst_bool, put_some, at_mk, fits_some, ↓look_cons, ↓vlook_t, ↓vlook_f, guard_none, guard_some, vgof_bool, ↓vrun_nil, ↓code_skip, ↓code_region, ↓onNormal_normal, ↓onBlock_normal, load_ptr, vld_one, blk_zero, faddr_ptr, vfap_some, bin_int, int_add, evG_eq, ↓vrun_cons, ↓run1_some, ↓runG_true, ↓runG_false, ↓run2_none, ↓run2_some, ↓run3_some, ↓code_cond, ↓vtest_bool, ↓vbr_false, at_hp, pickV_f, List.map_nil, List.getElem?_cons_zero, List.getElem?_cons_succ, List.map_cons, List.map_nil, List.nil_append, List.append_nil, Option.map_some, Option.bind_some, ↓reduceIte, reduceCtorEq, Nat.reduceLT, Nat.reduceBEq, Int.reduceLT, Int.reduceBEq, Nat.zero_add, true_and, or_true, Bool.not_true, Bool.not_false, Bool.or_true, Bool.true_and, b_beq_t, beq_self_eq_true, Try.vt32, Try.vfield34x3, wrap_i64_in, dec_t]))
    | (refine vbr_split (fun hZ => ?_) (fun hZ => ?_) <;> (try rw [hZ]) <;> (try simp only [decide_eq_true_eq, decide_eq_false_iff_not, Bool.or_eq_true, Bool.and_eq_true, Bool.or_eq_false_iff, Bool.and_eq_false_imp, Bool.not_eq_true', Bool.not_eq_false', beq_iff_eq, beq_eq_false_iff_ne, bne_iff_ne, bne_eq_false_iff_eq, ne_eq, Bool.not_eq_eq_eq_not, Bool.not_true, Bool.not_false] at hZ) <;> (try (first | rw [(hZ : _ = false)] | rw [(hZ : _ = true)])) <;> (try simp (config := { maxSteps := 2000000 }) (implicitDefEqProofs := false) (disch := first | omega | assumption | (simp only []; done) | fail) only [vop_move, vcallee_move, vop_assign, vcallee_assign, vop_buildSlice, vcallee_buildSlice, vop_load, vcallee_load, vop_binOp, vcallee_binOp, vop_builtin, vcallee_builtin, vcallee_value, vcal_fn, bin2_int, strip_pv, strip_ptr, strip_own, strip_agg, strip_fn, optV_none, ev_tmp, ev_const, ev_func, ofConst_int, put_some, at_mk, fits_some, ↓look_cons, ↓vlook_t, ↓vlook_f, guard_none, ↓vrun_nil, ↓code_skip, ↓code_region, ↓code_seq, ↓code_block, ↓code_exit, ↓code_ret, ↓onNormal_normal, ↓onNormal_exit, ↓onBlock_normal, ↓onBlock_exit, frz_own, frz1_own, frzHeap_zero, res_one, vres_tmp, load_ptr, vld_agg, blk_zero, blk_succ, allOne_nil, allOne_cons, one_pv, bin_int, int_add, bi_append, ap2_own, parts_nil, parts_cons, evG_eq, ↓vrun_cons, ↓run1_some, ↓runG_true, ↓run2_none, ↓run2_some, ↓run3_some, ↓vpost_ret, vfin_some, vfin2_some, at_hp, List.map_nil, dcells, vfill, vbuildSlice, V.mk, vsrc, vbase, vappend, V.kill, V.splice, List.getElem?_cons_zero, List.getElem?_cons_succ, List.length_cons, List.length_nil, List.map_cons, List.map_nil, List.cons_append, List.nil_append, List.append_nil, List.take_succ_cons, List.take_zero, List.take_nil, List.drop_succ_cons, List.drop_zero, List.drop_nil, List.set_cons_zero, List.set_cons_succ, Option.map_some, ↓reduceIte, Nat.reduceAdd, Nat.reduceLT, Nat.reduceLeDiff, Nat.reduceBEq, Int.reduceLT, Int.reduceAdd, Int.reduceBEq, Nat.zero_add, Nat.mul_one, true_and, and_self, Bool.true_and, Bool.and_self, beq_self_eq_true, Nat.le_refl, frzP_own, frzC_I, cellsI_len, Try.vzero3, Try.bytes3, Try.velem32, Try.notInt32, Try.vt34, wrap_i64_in, dec_t, dec_f, Ret, DV.nums, allN, mem_ok, app1N]))
    | (refine vdrG_split (fun hZ => ?_) (fun hZ => ?_) <;> (try rw [hZ]) <;> (try simp only [decide_eq_true_eq, decide_eq_false_iff_not, Bool.or_eq_true, Bool.and_eq_true, Bool.or_eq_false_iff, Bool.and_eq_false_imp, Bool.not_eq_true', Bool.not_eq_false', beq_iff_eq, beq_eq_false_iff_ne, bne_iff_ne, bne_eq_false_iff_eq, ne_eq, Bool.not_eq_eq_eq_not, Bool.not_true, Bool.not_false] at hZ) <;> (try (first | rw [(hZ : _ = false)] | rw [(hZ : _ = true)])) <;> skip)
    | (refine vc_pure (hw) rfl ?_; (try simp (config := { maxSteps := 2000000 }) (implicitDefEqProofs := false) (disch := first | omega | assumption | (simp only []; done) | fail) only [vop_move, vcallee_move, vop_assign, vcallee_assign, vop_unOp, vcallee_unOp, vop_extract, vcallee_extract, strip_pv, strip_tup, optV_none, ev_tmp, put_some, at_mk, fits_some, ↓look_cons, ↓vlook_t, ↓vlook_f, guard_none, guard_some, vgof_bool, ↓vrun_nil, ↓code_region, ↓code_seq, ↓onNormal_normal, un_not, ext_tup, evG_eq, ↓vrun_cons, ↓run1_some, ↓runG_true, ↓run2_none, ↓run3_some, ↓runK_eq, at_hp, List.getElem?_cons_zero, List.getElem?_cons_succ, Option.map_some, Option.bind_some, Nat.reduceLT, Nat.reduceBEq, Int.reduceLT, Int.reduceBEq, true_and, Bool.true_and, b_beq_t, beq_self_eq_true, dec_t]))
    | (refine vc_pure (hb) rfl ?_; (try simp (config := { maxSteps := 2000000 }) (implicitDefEqProofs := false) (disch := first | omega | assumption | (simp only []; done) | fail) only [vop_pick, vcallee_pick, vop_unOp, vcallee_unOp, vpick_bool, strip_pv, strip_opt, vstr_true, optV_none, optV_some, pickV_bool, ev_tmp, ev_const, ofConst_bool, put_some, at_mk, fits_some, ↓look_cons, ↓vlook_t, ↓vlook_f, guard_none, guard_some, vgof_bool, ↓vrun_nil, ↓onNormal_normal, un_not, evG_eq, ↓vrun_cons, ↓run1_some, ↓runG_true, ↓run2_none, ↓run3_some, ↓runK_eq, ↓code_cond, ↓vtest_bool, at_hp, List.getElem?_cons_zero, List.getElem?_cons_succ, Option.map_some, Option.bind_some, Nat.reduceLT, Nat.reduceBEq, Int.reduceLT, Int.reduceBEq, true_and, or_true, Bool.not_true, Bool.or_true, Bool.true_and, cond_true, beq_self_eq_true, dec_t])))
  · refine ⟨⟨k + 1, by omega⟩, by show n - (k + 1) < n - k; omega, ?_⟩
    dsimp only
    rw [hk2 (by rintro (h | h) <;> simp_all), show pages + ((k + 1 : Nat) : Int) = pages + (k : Int) + 1 by omega, List.length_append]
    exact (by refine gc_of (keep := [0, 3]) rfl rfl rfl (by decide) ?_ ?_ <;> (repeat' apply And.intro) <;> first | trivial | rfl | exact ⟨_, rfl, rfl, rfl, .inl ⟨rfl, rfl⟩⟩ | exact ⟨_, rfl, rfl, rfl, .inl ⟨cells_nums _ _ _, rfl⟩⟩ | exact ⟨_, rfl, rfl, rfl, .inl ⟨pvs_nums _ _, rfl⟩⟩ | exact ⟨_, rfl, rfl, rfl, .inr ⟨rfl, rfl⟩⟩)
  · refine ⟨⟨k + 1, by omega⟩, by show n - (k + 1) < n - k; omega, ?_⟩
    dsimp only
    rw [hk1 (.inr (by assumption)), show pages + ((k + 1 : Nat) : Int) = pages + (k : Int) + 1 by omega]
    exact (by refine gc_of (keep := [0, 1]) rfl rfl rfl (by decide) ?_ ?_ <;> (repeat' apply And.intro) <;> first | trivial | rfl | exact ⟨_, rfl, rfl, rfl, .inl ⟨rfl, rfl⟩⟩ | exact ⟨_, rfl, rfl, rfl, .inl ⟨cells_nums _ _ _, rfl⟩⟩ | exact ⟨_, rfl, rfl, rfl, .inl ⟨pvs_nums _ _, rfl⟩⟩ | exact ⟨_, rfl, rfl, rfl, .inr ⟨rfl, rfl⟩⟩)
  · refine ⟨⟨k + 1, by omega⟩, by show n - (k + 1) < n - k; omega, ?_⟩
    dsimp only
    rw [hk1 (.inl (by assumption)), show pages + ((k + 1 : Nat) : Int) = pages + (k : Int) + 1 by omega]
    exact (by refine gc_of (keep := [0, 1]) rfl rfl rfl (by decide) ?_ ?_ <;> (repeat' apply And.intro) <;> first | trivial | rfl | exact ⟨_, rfl, rfl, rfl, .inl ⟨rfl, rfl⟩⟩ | exact ⟨_, rfl, rfl, rfl, .inl ⟨cells_nums _ _ _, rfl⟩⟩ | exact ⟨_, rfl, rfl, rfl, .inl ⟨pvs_nums _ _, rfl⟩⟩ | exact ⟨_, rfl, rfl, rfl, .inr ⟨rfl, rfl⟩⟩)
  · rw [show k = n by omega]
end Go.Proofs.Ytnilcppifcekmaa
namespace Go.Proofs.Ytnilcppifcekmaa
open Go.V Go
def mrest (n f : Int) : Bool → List Pl → List Pl
  | false, [] => [⟨n, f⟩]
  | true, [] => []
  | false, p :: l => (if n ≤ p.pg then [⟨n, f⟩] else []) ++ (if p.pg = n then [] else [p]) ++ mrest n f (decide (n ≤ p.pg)) l
  | true, p :: l => (if p.pg = n then [] else [p]) ++ mrest n f true l
structure MW (l : List Pl) (n f : Int) where
  i : Nat
  d : Bool
  o : List Pl
  hi : i ≤ l.length
  e : o ++ mrest n f d (l.drop i) = mrest n f false l
  ho : o.length ≤ 2 * i
theorem mrest_true (n f : Int) : ∀ l : List Pl, (∀ p ∈ l, n < p.pg) → mrest n f true l = l
  | [], _ => rfl
  | p :: l, h => by
    rw [mrest, if_neg (by have := h p (by simp); omega), mrest_true n f l fun q hq => h q (by simp [hq])]
    rfl
theorem plo_cons (p : Pl) (l : List Pl) (n : Int) : plo (p :: l) n = if p.pg < n then plo l n + 1 else 0 := by
  unfold plo lo
  rw [List.takeWhile_cons]
  by_cases h : p.pg < n
  · rw [if_pos h, if_pos (by rw [decide_eq_true_eq]; omega)]; rfl
  · rw [if_neg h, if_neg (by rw [decide_eq_true_eq]; omega)]; rfl
theorem mrest_setP (n f : Int) : ∀ l : List Pl, (l.map (·.pg)).Pairwise (· < ·) → mrest n f false l = setP l n f
  | [], _ => by simp [mrest, setP, pfound, plo, lo]
  | p :: l, h => by
    rw [List.map_cons, List.pairwise_cons] at h
    have ih := mrest_setP n f l h.2
    have hlt : ∀ q ∈ l, p.pg < q.pg := fun q hq => h.1 _ (List.mem_map.2 ⟨q, hq, rfl⟩)
    have e1 := plo_cons p l n
    rcases Int.lt_trichotomy p.pg n with h1 | h1 | h1
    · rw [if_pos h1] at e1
      have e2 : pfound (p :: l) n = pfound l n := by rw [pfound, e1, pfound]; rfl
      rw [mrest, if_neg (by omega), if_neg (by omega), decide_eq_false (by omega), ih, setP, setP, e1, e2]
      split <;> rfl
    · rw [if_neg (by omega)] at e1
      have e2 : pfound (p :: l) n = true := by rw [pfound, e1]; simp; omega
      rw [mrest, if_pos (by omega), if_pos h1, decide_eq_true (by omega), mrest_true n f l (fun q hq => by have := hlt q hq; omega), setP, if_pos e2, e1]
      rfl
    · rw [if_neg (by omega)] at e1
      have e2 : ¬ pfound (p :: l) n = true := by rw [pfound, e1]; simp; omega
      rw [mrest, if_pos (by omega), if_neg (by omega), decide_eq_true (by omega), mrest_true n f l (fun q hq => by have := hlt q hq; omega), setP, if_neg e2, e1]
      rfl
theorem MW.step {l : List Pl} {n f : Int} (s : MW l n f) (h : s.i < l.length) : s.o ++ mrest n f s.d (l[s.i] :: l.drop (s.i + 1)) = mrest n f false l := by
  rw [← s.e, List.drop_eq_getElem_cons h]
theorem MW.fin {l : List Pl} {n f : Int} (s : MW l n f) (h : ¬ s.i < l.length) : s.o ++ mrest n f s.d [] = mrest n f false l := by
  rw [← s.e, List.drop_of_length_le (by omega)]
end Go.Proofs.Ytnilcppifcekmaa
namespace Go.Proofs.Ytnilcppifcekmaa
open Go.V Go
theorem rmark_v (r : Rm) (hs : r.sm) (a : Int) : VCalls Try.prog 21 [.agg r.d, .int .i64 a] [] (Ret (remD (r.markS a).1 (r.markS a).2.1 (r.markS a).2.2)) := by
  refine VCalls.unwk ?_
  refine dd Try.func21 ?_
  have hv := qrvalid_v r hs
  have hb := rhas_v r.bad hs.2 a
  by_cases hB : r.okB = true
  rotate_left
  · rw [Rm.markS, if_neg hB]
    rw [Bool.eq_false_iff.2 hB] at hv
    obtain ⟨pages, spares, places, bad⟩ := r
    dsimp only [Rm.d] at *
    simp (config := { maxSteps := 2000000 }) (implicitDefEqProofs := false) (disch := first | omega | assumption | (simp only []; done) | fail) only [vop_assign, vcallee_assign, vop_alloc, vcallee_alloc, vop_box, vcallee_box, vop_load, vcallee_load, vcallee_value, vcal_fn, strip_pv, strip_ptr, strip_agg, strip_fn, optV_none, ev_tmp, ev_const, ev_func, ofConst_int, put_some, at_mk, fits_some, ↓look_cons, ↓vlook_t, ↓vlook_f, guard_none, ↓vrun_nil, ↓code_region, ↓code_seq, ↓onNormal_normal, load_ptr, vld_agg, blk_zero, box_eq, alloc_eq, val1_some, allOne_nil, allOne_cons, one_pv, enum_nil, enum_cons, evG_eq, ↓vrun_cons, ↓run1_some, ↓runG_true, ↓run2_none, ↓run2_some, ↓run3_some, at_hp, List.map_nil, dcells, List.toList_toArray, List.length_cons, List.length_nil, List.map_cons, List.map_nil, List.cons_append, List.nil_append, List.append_nil, List.take_succ_cons, List.take_nil, List.drop_zero, Option.map_some, ↓reduceIte, Nat.reduceAdd, Nat.reduceLT, Nat.reduceBEq, Int.reduceLT, Int.reduceNeg, Int.reduceAdd, Int.reduceBEq, Nat.zero_add, true_and, and_self, Bool.true_and, Bool.and_self, beq_self_eq_true, Nat.le_refl, Try.vt34, Try.vzero34, dec_t, Try.f21]
    skip
    repeat' (first
      | (refine vrunG_split (fun hZ => ?_) (fun hZ => ?_) <;> (try rw [hZ]) <;> (try simp only [decide_eq_true_eq, decide_eq_false_iff_not, Bool.or_eq_true, Bool.and_eq_true, Bool.or_eq_false_iff, Bool.and_eq_false_imp, Bool.not_eq_true', Bool.not_eq_false', beq_iff_eq, beq_eq_false_iff_ne, bne_iff_ne, bne_eq_false_iff_eq, ne_eq, Bool.not_eq_eq_eq_not, Bool.not_true, Bool.not_false] at hZ) <;> (try (first | rw [(hZ : _ = false)] | rw [(hZ : _ = true)])) <;> skip)
      | (refine vbr_split (fun hZ => ?_) (fun hZ => ?_) <;> (try rw [hZ]) <;> (try simp only [decide_eq_true_eq, decide_eq_false_iff_not, Bool.or_eq_true, Bool.and_eq_true, Bool.or_eq_false_iff, Bool.and_eq_false_imp, Bool.not_eq_true', Bool.not_eq_false', beq_iff_eq, beq_eq_false_iff_ne, bne_iff_ne, bne_eq_false_iff_eq, ne_eq, Bool.not_eq_eq_eq_not, Bool.not_true, Bool.not_false] at hZ) <;> (try (first | rw [(hZ : _ = false)] | rw [(hZ : _ = true)])) <;> skip)
      | (refine vdrG_split (fun hZ => ?_) (fun hZ => ?_) <;> (try rw [hZ]) <;> (try simp only [decide_eq_true_eq, decide_eq_false_iff_not, Bool.or_eq_true, Bool.and_eq_true, Bool.or_eq_false_iff, Bool.and_eq_false_imp, Bool.not_eq_true', Bool.not_eq_false', beq_iff_eq, beq_eq_false_iff_ne, bne_iff_ne, bne_eq_false_iff_eq, ne_eq, Bool.not_eq_eq_eq_not, Bool.not_true, Bool.not_false] at hZ) <;> (try (first | rw [(hZ : _ = false)] | rw [(hZ : _ = true)])) <;> skip)
      | (refine vc_pure (hv) rfl ?_; (try simp (config := { maxSteps := 2000000 }) (implicitDefEqProofs := false) (disch := first | omega | assumption | (simp only []; done) | fail) only [vop_assign, vcallee_assign, vop_build, vcallee_build, vop_store, vcallee_store, vop_unOp, vcallee_unOp, strip_pv, strip_ptr, strip_agg, optV_none, ev_tmp, ev_const, ofConst_int, put_some, put_none, at_mk, fits_some, fits_none, ↓look_cons, ↓vlook_t, ↓vlook_f, guard_none, ↓vrun_nil, ↓code_region, ↓code_seq, ↓code_ret, ↓onNormal_normal, ↓onNormal_ret, frz_tup, frzT_agg, frzT_pv, frz1_pv, allSome_nil, allSome_cons, frzHeap_zero, res_two, vres_tmp, vres_cell, load_ptr, vld_agg, store_ptr, vst_agg, blk_zero, blk_succ, set_zero, set_succ, allOne_nil, allOne_cons, one_pv, un_not, parts_nil, evG_eq, ↓vrun_cons, ↓run1_some, ↓runG_true, ↓run2_none, ↓run3_some, ↓runK_eq, ↓code_cond, ↓vtest_bool, ↓vbr_true, ↓vpost_ret, vfin_some, vfin2_some, at_hp, List.map_nil, vbuild, vfill, V.splice, List.length_cons, List.length_nil, List.map_cons, List.map_nil, List.nil_append, List.append_nil, List.take_succ_cons, List.take_zero, List.take_nil, List.drop_succ_cons, List.drop_zero, List.drop_nil, Option.map_some, ↓reduceIte, Nat.reduceAdd, Nat.reduceLT, Nat.reduceBEq, Int.reduceLT, Int.reduceNeg, Int.reduceAdd, Int.reduceBEq, Nat.zero_add, true_and, and_self, Bool.not_false, Bool.true_and, Bool.and_self, beq_self_eq_true, Nat.le_refl, RetW, DV.wk, DV.wk.go, PV.wk, Try.vt34, Try.vplaces34, Try.vzero34, dec_t, DV.nums, DV.nums.go])))
    rfl
  have hok := (ok_iff r).1 hB
  rw [hB] at hv
  have hf := rfree_v r hok hs
  have ho := rowner_v r hs a
  rw [if_pos hB] at ho
  obtain ⟨p1, p2, s1, s2, -, hasc, -, hpasc, -⟩ := hok
  have m2 : (a < 0 ∨ r.pages + r.spares ≤ a) → r.markS a = (Rm0, 0, 1) := fun h2 => by rw [Rm.markS, if_pos hB, if_pos h2]
  have m3 : ¬ (a < 0 ∨ r.pages + r.spares ≤ a) → a ∈ r.bad → r.markS a = (r, -1, 0) := fun h2 h3 => by rw [Rm.markS, if_pos hB, if_neg h2, if_pos h3]
  have m4 : ¬ (a < 0 ∨ r.pages + r.spares ≤ a) → ¬ a ∈ r.bad → r.ownerS a = none → r.markS a = ({ r with bad := insB r.bad a }, -1, 0) := fun h2 h3 h4 => by rw [Rm.markS, if_pos hB, if_neg h2, if_neg h3, h4]
  have m5 : ¬ (a < 0 ∨ r.pages + r.spares ≤ a) → ¬ a ∈ r.bad → ∀ n, r.ownerS a = some n → r.freeS.length = 0 → r.markS a = (Rm0, 0, 47) := fun h2 h3 n h4 h5 => by rw [Rm.markS, if_pos hB, if_neg h2, if_neg h3, h4, List.length_eq_zero_iff.1 h5]
  have m6 : ¬ (a < 0 ∨ r.pages + r.spares ≤ a) → ¬ a ∈ r.bad → ∀ n, r.ownerS a = some n → 0 < r.freeS.length → r.markS a = (⟨r.pages, r.spares, setP r.places n (r.freeS.getD 0 0), insB r.bad a⟩, n, 0) := fun h2 h3 n h4 h5 => by
    rw [Rm.markS, if_pos hB, if_neg h2, if_neg h3, h4]
    cases hF : r.freeS with
    | nil => rw [hF] at h5; exact absurd h5 (Nat.lt_irrefl _)
    | cons f t => rfl
  have hFl : r.freeS.length ≤ 1000 := by have := freeN_len r r.spares.toNat; unfold Rm.freeS; omega
  clear hB
  generalize r.markS a = M at *
  generalize r.freeS = F at *
  generalize r.ownerS a = o at *
  obtain ⟨pages, spares, places, bad⟩ := r
  obtain ⟨hs1, hs2⟩ := hs
  dsimp only [Rm.d] at *
  cases o with
  | none =>
    unfold ownD at ho
    dsimp only at ho
    simp (config := { maxSteps := 2000000 }) (implicitDefEqProofs := false) (disch := first | omega | assumption | (simp only []; done) | fail) only [vop_assign, vcallee_assign, vop_alloc, vcallee_alloc, vop_box, vcallee_box, vop_load, vcallee_load, vcallee_value, vcal_fn, strip_pv, strip_ptr, strip_agg, strip_fn, optV_none, ev_tmp, ev_const, ev_func, ofConst_int, put_some, at_mk, fits_some, ↓look_cons, ↓vlook_t, ↓vlook_f, guard_none, ↓vrun_nil, ↓code_region, ↓code_seq, ↓onNormal_normal, load_ptr, vld_agg, blk_zero, box_eq, alloc_eq, val1_some, allOne_nil, allOne_cons, one_pv, enum_nil, enum_cons, evG_eq, ↓vrun_cons, ↓run1_some, ↓runG_true, ↓run2_none, ↓run2_some, ↓run3_some, at_hp, List.map_nil, dcells, List.toList_toArray, List.length_cons, List.length_nil, List.map_cons, List.map_nil, List.cons_append, List.nil_append, List.append_nil, List.take_succ_cons, List.take_nil, List.drop_zero, Option.map_some, ↓reduceIte, Nat.reduceAdd, Nat.reduceLT, Nat.reduceBEq, Int.reduceLT, Int.reduceNeg, Int.reduceAdd, Int.reduceBEq, Nat.zero_add, true_and, and_self, Bool.true_and, Bool.and_self, beq_self_eq_true, Nat.le_refl, Try.vt34, Try.vzero34, dec_t, Try.f21]
    skip
    repeat' (first
      | (refine vrunG_split (fun hZ => ?_) (fun hZ => ?_) <;> (try rw [hZ]) <;> (try simp only [decide_eq_true_eq, decide_eq_false_iff_not, Bool.or_eq_true, Bool.and_eq_true, Bool.or_eq_false_iff, Bool.and_eq_false_imp, Bool.not_eq_true', Bool.not_eq_false', beq_iff_eq, beq_eq_false_iff_ne, bne_iff_ne, bne_eq_false_iff_eq, ne_eq, Bool.not_eq_eq_eq_not, Bool.not_true, Bool.not_false] at hZ) <;> (try (first | rw [(hZ : _ = false)] | rw [(hZ : _ = true)])) <;> (try simp (config := { maxSteps := 2000000 }) (implicitDefEqProofs := false) (disch := first | omega | assumption | (simp only []; done) | fail) only [vop_move, vcallee_move, vop_assign, vcallee_assign, vop_pick, vcallee_pick, vop_build, vcallee_build, vop_load, vcallee_load, vop_store, vcallee_store, vop_binOp, vcallee_binOp, vop_fieldAddr, vcallee_fieldAddr, bin2_tmp, vpick_bool, strip_pv, strip_ptr, strip_agg, strip_tup, strip_opt, vstr_true, optV_none, optV_some, pickV_bool, ev_tmp, ev_const, ofConst_int, ofConst_bool, put_some, put_none, at_mk, fits_some, fits_none, ↓look_cons, ↓vlook_t, ↓vlook_f, guard_none, guard_some, vgof_bool, ↓vrun_nil, ↓code_region, ↓code_seq, ↓code_ret, ↓onNormal_normal, ↓onNormal_ret, frz_tup, frzT_agg, frzT_pv, frz1_pv, allSome_nil, allSome_cons, frzHeap_zero, res_two, vres_tmp, vres_cell, load_ptr, vld_one, vld_agg, store_ptr, vst_agg, blk_zero, blk_succ, set_zero, set_succ, allOne_nil, allOne_cons, one_pv, faddr_ptr, vfap_some, bin_int, int_add, int_geq, parts_nil, evG_eq, ↓vrun_cons, ↓run1_some, ↓runG_true, ↓runG_false, ↓run2_none, ↓run3_some, ↓code_cond, ↓vtest_bool, ↓vbr_true, ↓vpost_ret, vfin_some, vfin2_some, at_hp, pickV_t, List.map_nil, vbuild, vfill, V.splice, List.getElem?_cons_zero, List.getElem?_cons_succ, List.length_cons, List.length_nil, List.map_cons, List.map_nil, List.nil_append, List.append_nil, List.take_succ_cons, List.take_zero, List.take_nil, List.drop_succ_cons, List.drop_zero, List.drop_nil, Option.map_some, Option.bind_some, ↓reduceIte, reduceCtorEq, Nat.reduceAdd, Nat.reduceLT, Nat.reduceBEq, Int.reduceLT, Int.reduceNeg, Int.reduceAdd, Int.reduceBEq, Nat.zero_add, Nat.add_zero, true_and, and_self, or_true, Bool.not_true, Bool.not_false, Bool.or_true, Bool.true_and, Bool.and_self, b_beq_f, cond_false, beq_self_eq_true, Nat.le_refl, RetW, DV.wk, DV.wk.go, PV.wk, Try.vt3, Try.vt34, Try.vfield34x0, Try.vfield34x1, Try.vplaces34, Try.vzero34, wrap_i64_in, dec_t, dec_f, DV.nums, DV.nums.go]))
      | (refine vbr_split (fun hZ => ?_) (fun hZ => ?_) <;> (try rw [hZ]) <;> (try simp only [decide_eq_true_eq, decide_eq_false_iff_not, Bool.or_eq_true, Bool.and_eq_true, Bool.or_eq_false_iff, Bool.and_eq_false_imp, Bool.not_eq_true', Bool.not_eq_false', beq_iff_eq, beq_eq_false_iff_ne, bne_iff_ne, bne_eq_false_iff_eq, ne_eq, Bool.not_eq_eq_eq_not, Bool.not_true, Bool.not_false] at hZ) <;> (try (first | rw [(hZ : _ = false)] | rw [(hZ : _ = true)])) <;> (try simp (config := { maxSteps := 2000000 }) (implicitDefEqProofs := false) (disch := first | omega | assumption | (simp only []; done) | fail) only [vop_move, vcallee_move, vop_assign, vcallee_assign, vop_build, vcallee_build, vop_load, vcallee_load, vop_store, vcallee_store, vop_fieldAddr, vcallee_fieldAddr, vcallee_value, vcal_fn, strip_pv, strip_ptr, strip_agg, strip_fn, optV_none, ev_tmp, ev_const, ev_func, ofConst_int, put_some, put_none, at_mk, fits_some, fits_none, ↓look_cons, ↓vlook_t, ↓vlook_f, guard_none, ↓vrun_nil, ↓code_skip, ↓code_region, ↓code_seq, ↓code_ret, ↓onNormal_normal, ↓onNormal_ret, frz_tup, frzT_agg, frzT_pv, frz1_pv, allSome_nil, allSome_cons, frzHeap_zero, res_two, vres_tmp, vres_cell, load_ptr, vld_one, vld_agg, store_ptr, vst_agg, blk_zero, blk_succ, set_zero, set_succ, allOne_nil, allOne_cons, one_pv, faddr_ptr, vfap_some, parts_nil, evG_eq, ↓vrun_cons, ↓run1_some, ↓runG_true, ↓run2_none, ↓run2_some, ↓run3_some, ↓vpost_ret, vfin_some, vfin2_some, at_hp, List.map_nil, vbuild, vfill, V.splice, List.getElem?_cons_zero, List.getElem?_cons_succ, List.length_cons, List.length_nil, List.map_cons, List.map_nil, List.nil_append, List.append_nil, List.take_succ_cons, List.take_zero, List.take_nil, List.drop_succ_cons, List.drop_zero, List.drop_nil, Option.map_some, ↓reduceIte, reduceCtorEq, Nat.reduceAdd, Nat.reduceLT, Nat.reduceBEq, Int.reduceLT, Int.reduceNeg, Int.reduceAdd, Int.reduceBEq, Nat.zero_add, true_and, and_self, Bool.true_and, Bool.and_self, beq_self_eq_true, Nat.le_refl, RetW, DV.wk, DV.wk.go, PV.wk, Try.vt32, Try.vt34, Try.vfield34x3, Try.vplaces34, Try.vzero34, dec_t, DV.nums, DV.nums.go]))
      | (refine vdrG_split (fun hZ => ?_) (fun hZ => ?_) <;> (try rw [hZ]) <;> (try simp only [decide_eq_true_eq, decide_eq_false_iff_not, Bool.or_eq_true, Bool.and_eq_true, Bool.or_eq_false_iff, Bool.and_eq_false_imp, Bool.not_eq_true', Bool.not_eq_false', beq_iff_eq, beq_eq_false_iff_ne, bne_iff_ne, bne_eq_false_iff_eq, ne_eq, Bool.not_eq_eq_eq_not, Bool.not_true, Bool.not_false] at hZ) <;> (try (first | rw [(hZ : _ = false)] | rw [(hZ : _ = true)])) <;> skip)
      | (refine vc_pure (hv) rfl ?_; (try simp (config := { maxSteps := 2000000 }) (implicitDefEqProofs := false) (disch := first | omega | assumption | (simp only []; done) | fail) only [vop_move, vcallee_move, vop_binOp, vcallee_binOp, vop_unOp, vcallee_unOp, bin2_int, strip_pv, optV_none, ev_tmp, ev_const, ofConst_int, put_some, at_mk, fits_some, ↓look_cons, ↓vlook_t, ↓vlook_f, guard_none, guard_some, vgof_bool, ↓vrun_nil, ↓code_skip, ↓code_region, ↓code_seq, ↓onNormal_normal, bin_int, int_lss, un_not, evG_eq, ↓vrun_cons, ↓run1_some, ↓runG_true, ↓run2_none, ↓run3_some, ↓runK_eq, ↓code_cond, ↓vtest_bool, ↓vbr_false, at_hp, List.getElem?_cons_zero, List.getElem?_cons_succ, Option.map_some, Option.bind_some, Nat.reduceLT, Nat.reduceBEq, Int.reduceLT, Int.reduceNeg, Int.reduceBEq, true_and, Bool.not_true, Bool.true_and, b_beq_f, beq_self_eq_true, dec_t]))
      | (refine vc_pure (hb) rfl ?_; (try simp (config := { maxSteps := 2000000 }) (implicitDefEqProofs := false) (disch := first | omega | assumption) only [optV_none, ev_tmp, put_some, at_mk, ↓look_cons, ↓vlook_t, ↓vrun_nil, ↓onNormal_normal, ↓runK_eq, ↓code_cond, ↓vtest_bool, Int.reduceNeg, beq_self_eq_true]))
      | (refine vc_pure (ho) rfl ?_; (try simp (config := { maxSteps := 2000000 }) (implicitDefEqProofs := false) (disch := first | omega | assumption | (simp only []; done) | fail) only [vop_move, vcallee_move, vop_assign, vcallee_assign, vop_load, vcallee_load, vop_extract, vcallee_extract, vcallee_value, vcal_fn, strip_pv, strip_ptr, strip_agg, strip_tup, strip_fn, optV_none, ev_tmp, ev_func, put_some, at_mk, fits_some, ↓look_cons, ↓vlook_t, ↓vlook_f, guard_none, ↓vrun_nil, ↓code_region, ↓code_seq, ↓onNormal_normal, load_ptr, vld_agg, blk_zero, ext_tup, evG_eq, ↓vrun_cons, ↓run1_some, ↓runG_true, ↓run2_none, ↓run2_some, ↓run3_some, ↓runK_eq, at_hp, List.map_nil, List.getElem?_cons_zero, List.getElem?_cons_succ, List.length_cons, List.length_nil, List.map_cons, List.map_nil, List.nil_append, List.append_nil, List.take_succ_cons, List.take_nil, List.drop_zero, Option.map_some, ↓reduceIte, Nat.reduceAdd, Nat.reduceLT, Nat.reduceBEq, Int.reduceLT, Int.reduceNeg, Int.reduceAdd, Int.reduceBEq, Nat.zero_add, true_and, Bool.true_and, beq_self_eq_true, Nat.le_refl, Try.vt34, dec_t]))
      | (refine vc_pure (hf) rfl ?_; (try simp (config := { maxSteps := 2000000 }) (implicitDefEqProofs := false) (disch := first | omega | assumption | (simp only []; done) | fail) only [vop_move, vcallee_move, vop_assign, vcallee_assign, vop_pick, vcallee_pick, vop_alloc, vcallee_alloc, vop_build, vcallee_build, vop_load, vcallee_load, vop_store, vcallee_store, vop_fieldAddr, vcallee_fieldAddr, vpick_bool, strip_pv, strip_ptr, strip_agg, strip_tup, optV_none, ev_tmp, ev_const, ofConst_int, ofConst_bool, put_some, put_none, at_mk, fits_some, fits_none, ↓look_cons, ↓vlook_t, ↓vlook_f, guard_none, guard_some, vgof_bool, ↓vrun_nil, ↓code_skip, ↓code_region, ↓code_seq, ↓code_block, ↓code_loop, ↓onNormal_normal, load_ptr, vld_one, store_ptr, vst_agg, blk_zero, blk_succ, set_zero, set_succ, alloc_eq, val1_some, allOne_nil, allOne_cons, one_pv, faddr_ptr, vfap_some, parts_nil, parts_cons, evG_eq, ↓vrun_cons, ↓run1_some, ↓runG_true, ↓runG_false, ↓run2_none, ↓run3_some, ↓runK_eq, ↓code_cond, ↓vtest_bool, ↓vbr_false, at_hp, pickV_f, dcells, vbuild, vfill, V.splice, List.getElem?_cons_zero, List.getElem?_cons_succ, List.length_cons, List.length_nil, List.cons_append, List.nil_append, List.append_nil, List.take_succ_cons, List.take_zero, List.drop_succ_cons, List.drop_zero, List.drop_nil, Option.map_some, Option.bind_some, ↓reduceIte, reduceCtorEq, Nat.reduceAdd, Nat.reduceLT, Nat.reduceLeDiff, Nat.reduceBEq, Int.reduceLT, Int.reduceNeg, Int.reduceAdd, Int.reduceBEq, Nat.zero_add, Nat.add_zero, true_and, and_self, Bool.not_false, Bool.true_and, Bool.and_self, b_beq_t, beq_self_eq_true, Nat.le_refl, Try.vt3, Try.vt34, Try.vfield34x0, Try.vfield34x1, Try.vplaces34, Try.vzero34, dec_t])))
    · rw [m2 (by omega)]; rfl
    · rw [m3 (by omega) (by assumption)]; rfl
    · refine vloopW (fun s : {i : Nat // i ≤ bad.length ∧ ∀ j, ∀ hj : j < bad.length, j < i → bad[j] < a} => ⟨153, 0, [(11, .int .i64 s.1), (10, .ptr 2 0), (8, .bool false), (4, .ptr 1 0), (2, .ptr 0 0), (1, .int .i64 a)], [⟨34, true, [.int .i64 pages, .int .i64 spares, .pv (.sl (fz encP places)), .pv (.sl (fz encI bad))]⟩, ⟨34, true, [.int .i64 0, .int .i64 0, .pv (.slc []), .pv (.slc [])]⟩, ⟨34, true, [.int .i64 pages, .int .i64 spares, .pv (.slc []), .pv (.slc [])]⟩]⟩) (fun s => bad.length - s.1) ⟨0, Nat.zero_le _, fun j _ h => by omega⟩ (.inl (by refine ⟨rfl, rfl, by simp, ?_, ?_, .inr ⟨?_, ?_⟩⟩ <;> (repeat' apply And.intro) <;> first | rfl | trivial | (intro _; first | rfl | apply cells_refs))) ?_
      rintro ⟨i, hi, hn⟩
      dsimp only
      have hg := fun h : i < bad.length => (by rw [← getD_eqQ bad i h 0]; exact fzI_get bad i h : (fz encI bad)[i]? = some [.lit (.int .i64 bad[i])])
      (try simp (config := { maxSteps := 2000000 }) (implicitDefEqProofs := false) (disch := first | omega | assumption | (simp only []; done) | fail) only [vop_move, vcallee_move, vop_load, vcallee_load, vop_binOp, vcallee_binOp, vop_fieldAddr, vcallee_fieldAddr, vop_builtin, vcallee_builtin, bin2_tmp, strip_pv, strip_ptr, optV_none, ev_tmp, put_some, at_mk, fits_some, ↓look_cons, ↓vlook_t, ↓vlook_f, guard_none, guard_some, vgof_bool, ↓code_region, ↓code_seq, load_ptr, vld_one, blk_zero, faddr_ptr, vfap_some, bin_int, int_lss, len_sl, vlk_sl, bi_len, evG_eq, ↓vrun_cons, ↓run1_some, ↓runG_true, ↓run2_none, ↓run3_some, at_hp, List.map_nil, List.getElem?_cons_zero, List.getElem?_cons_succ, List.map_cons, List.map_nil, Option.map_some, Option.bind_some, ↓reduceIte, reduceCtorEq, Nat.reduceLT, Nat.reduceBEq, Int.reduceLT, Int.reduceNeg, Int.reduceBEq, Nat.zero_add, true_and, Bool.true_and, b_beq_t, beq_self_eq_true, fz_len, Try.vt32, Try.vkind32, Try.vfield34x3, dec_t])
      repeat' (first
        | (refine vrunG_split (fun hZ => ?_) (fun hZ => ?_) <;> (try rw [hZ]) <;> (try simp only [decide_eq_true_eq, decide_eq_false_iff_not, Bool.or_eq_true, Bool.and_eq_true, Bool.or_eq_false_iff, Bool.and_eq_false_imp, Bool.not_eq_true', Bool.not_eq_false', beq_iff_eq, beq_eq_false_iff_ne, bne_iff_ne, bne_eq_false_iff_eq, ne_eq, Bool.not_eq_eq_eq_not, Bool.not_true, Bool.not_false] at hZ) <;> (try (first | rw [(hZ : _ = false)] | rw [(hZ : _ = true)])) <;> (try simp (config := { maxSteps := 2000000 }) (implicitDefEqProofs := false) (disch := first | omega | assumption | (simp only [List.length_cons, List.length_nil, Nat.zero_add]; done) | fail) only [vop_move, vcallee_move, vop_pick, vcallee_pick, vop_load, vcallee_load, vop_binOp, vcallee_binOp, vop_fieldAddr, vcallee_fieldAddr, vop_indexAddr, vcallee_indexAddr, bin2_tmp, vpick_bool, strip_pv, strip_ptr, strip_tup, strip_opt, vstr_true, optV_none, optV_some, pickV_bool, ev_tmp, ev_const, ofConst_bool, put_some, at_mk, fits_some, ↓look_cons, ↓vlook_t, ↓vlook_f, guard_none, guard_some, vgof_bool, ↓vrun_nil, ↓code_draw, ↓code_seq, ↓code_exit, ↓onNormal_normal, ↓onNormal_exit, ↓onBlock_exit, load_ptr, load_ip, vld_one, vldp_one, blk_zero, faddr_ptr, vfap_some, iaddr_sl, vias_some, bin_int, int_lss, evG_eq, ↓vrun_cons, ↓run1_some, ↓runG_true, ↓runG_false, ↓run2_none, ↓run3_some, ↓code_cond, ↓vtest_bool, ↓vbr_false, at_hp, pickV_f, List.getElem?_cons_zero, List.getElem?_cons_succ, Option.map_some, Option.bind_some, ↓reduceIte, reduceCtorEq, Nat.reduceLT, Nat.reduceBEq, Int.reduceLT, Int.reduceNeg, Int.reduceBEq, Int.toNat_natCast, Nat.zero_add, true_and, or_true, Bool.not_true, Bool.not_false, Bool.or_true, Bool.true_and, b_beq_t, cond_true, beq_self_eq_true, Try.vt3, Try.vt32, Try.velem32, Try.vfield34x3, dec_t, hg]))
        | (refine vbr_split (fun hZ => ?_) (fun hZ => ?_) <;> (try rw [hZ]) <;> (try simp only [decide_eq_true_eq, decide_eq_false_iff_not, Bool.or_eq_true, Bool.and_eq_true, Bool.or_eq_false_iff, Bool.and_eq_false_imp, Bool.not_eq_true', Bool.not_eq_false', beq_iff_eq, beq_eq_false_iff_ne, bne_iff_ne, bne_eq_false_iff_eq, ne_eq, Bool.not_eq_eq_eq_not, Bool.not_true, Bool.not_false] at hZ) <;> (try (first | rw [(hZ : _ = false)] | rw [(hZ : _ = true)])) <;> (try simp (config := { maxSteps := 2000000 }) (implicitDefEqProofs := false) (disch := first | omega | assumption | (simp only []; done) | fail) only [vop_move, vcallee_move, vop_assign, vcallee_assign, vop_binOp, vcallee_binOp, bin2_int, strip_pv, optV_none, ev_tmp, ev_const, ofConst_int, put_some, at_mk, fits_some, ↓look_cons, ↓vlook_t, ↓vlook_f, guard_none, ↓vrun_nil, ↓code_skip, ↓code_region, ↓code_draw, ↓code_seq, ↓code_block, ↓code_exit, ↓onNormal_normal, ↓onNormal_exit, ↓onBlock_normal, ↓onBlock_exit, bin_int, int_add, evG_eq, ↓vrun_cons, ↓run1_some, ↓runG_true, ↓run2_none, ↓run3_some, at_hp, Option.map_some, ↓reduceIte, Nat.reduceLT, Nat.reduceBEq, Int.reduceLT, Int.reduceNeg, Int.reduceBEq, true_and, Bool.true_and, beq_self_eq_true, wrap_i64_in, dec_t]))
        | (refine vdrG_split (fun hZ => ?_) (fun hZ => ?_) <;> (try rw [hZ]) <;> (try simp only [decide_eq_true_eq, decide_eq_false_iff_not, Bool.or_eq_true, Bool.and_eq_true, Bool.or_eq_false_iff, Bool.and_eq_false_imp, Bool.not_eq_true', Bool.not_eq_false', beq_iff_eq, beq_eq_false_iff_ne, bne_iff_ne, bne_eq_false_iff_eq, ne_eq, Bool.not_eq_eq_eq_not, Bool.not_true, Bool.not_false] at hZ) <;> (try (first | rw [(hZ : _ = false)] | rw [(hZ : _ = true)])) <;> skip)
        | (refine vspine (id := 15) [0, 1, 2, 3, 5, 8, 9, 10, 11] [⟨[6], [], 4, [0, 1, 2, 5, 8, 9, 10, 11], []⟩, ⟨[6], [6], 7, [0, 1, 2, 3, 5, 8, 9, 10, 11], []⟩, ⟨[], [], 12, [0, 1, 2, 3, 5, 8, 9, 10], [13]⟩, ⟨[], [], 14, [], []⟩] (by kernel_rfl) (by kernel_rfl) ?_; (try simp (config := { maxSteps := 2000000 }) (implicitDefEqProofs := false) (disch := first | omega | assumption | (simp only []; done) | (simp only [List.length_append, List.length_cons, List.length_nil, List.length_take, List.length_drop] <;> omega) | fail) only [vop_move, vcallee_move, foot_move, vop_assign, vcallee_assign, vop_buildSlice, vcallee_buildSlice, vop_load, vcallee_load, vop_store, vcallee_store, vop_unOp, vcallee_unOp, vop_slice, vcallee_slice, vop_fieldAddr, vcallee_fieldAddr, foot_fieldAddr, foot_load, foot_slice, vop_builtin, vcallee_builtin, ptrNo_ptr, strip_pv, strip_ptr, strip_own, strip_agg, optV_none, ev_tmp, ev_const, ofConst_int, ofConst_slice, put_some, put_none, at_mk, fits_some, fits_none, ↓look_cons, ↓vlook_t, ↓vlook_f, guard_none, ↓vrun_nil, ↓code_region, ↓code_seq, ↓code_ret, ↓onNormal_normal, ↓onNormal_ret, frz_tup, frzT_agg, frzT_pv, frz1_pv, frz1_own, allSome_nil, allSome_cons, frzHeap_zero, res_two, vres_tmp, vres_cell, load_ptr, vld_one, vld_agg, store_ptr, vst_one, vst_agg, blk_zero, blk_succ, set_zero, set_succ, allOne_nil, allOne_cons, one_pv, one_own, faddr_ptr, vfap_some, un_not, bi_append, ap2_slc, ap2_own, parts_nil, parts_cons, evG_eq, ↓vrun_cons, ↓run1_some, ↓runG_true, ↓run2_none, ↓run3_some, ↓code_cond, ↓vtest_bool, ↓vbr_true, ↓vpost_ret, vfin_some, vfin2_some, at_hp, slice_pv, slice_sl_hi, slice_sl_lo, pvs, List.flatten_nil, List.map_nil, dcells, vfill, vbuildSlice, V.mk, slOf, vsrc, vbase, vappend, V.kill, V.splice, List.toList_toArray, List.getElem?_cons_zero, List.getElem?_cons_succ, List.getElem?_nil, List.length_cons, List.length_nil, List.map_cons, List.map_nil, List.cons_append, List.nil_append, List.append_nil, List.take_succ_cons, List.take_zero, List.take_nil, List.drop_succ_cons, List.drop_zero, List.drop_nil, List.set_cons_zero, List.set_cons_succ, Option.map_some, Option.map_none, ↓reduceIte, reduceCtorEq, Nat.reduceAdd, Nat.reduceLT, Nat.reduceLeDiff, Nat.reduceBEq, Int.reduceLT, Int.reduceNeg, Int.reduceAdd, Int.reduceBEq, Int.toNat_natCast, Nat.zero_add, Nat.mul_one, true_and, and_self, true_or, or_false, Bool.not_false, Bool.true_or, Bool.or_false, Bool.true_and, Bool.and_self, beq_self_eq_true, Nat.le_refl, ↓vsp_nil, ↓vsp_cons, ↓vspK_eq, vspC_true, vspR_eq, pick_nil, pick_cons, pickO_some, creas_nil, creas_cons, creaOk_eq, creaM_own, creaOk2_some, agree_nil, agree_cons, agree1_some, sameAt_nil, sameAt_cons, Op.operands, ptrNo_pv, frzP_own, frzC_I, fz_len, cellsI_len, fz_flat, RetW, DV.wk, DV.wk.go, PV.wk, Try.vzero3, Try.bytes3, Try.vt31, Try.velem31, Try.notInt31, Try.vt32, Try.velem32, Try.notInt32, Try.vt34, Try.vfield34x2, Try.vfield34x3, Try.vzero61, Try.bytes61, dec_t, DV.nums, DV.nums.go, allN, appN, slkN, srcN, mem_ok, List.length_append, List.length_take, List.length_drop, List.take_length, app1N, srcP, frzP, mem_ok, List.length_append, List.length_take, List.length_drop, List.take_length])))
      · refine ⟨⟨i + 1, by omega, fun j hj h => ?_⟩, by show bad.length - (i + 1) < bad.length - i; omega, (by refine gc_of (keep := [0, 1, 2]) rfl rfl rfl (by decide) ?_ ?_ <;> (repeat' apply And.intro) <;> first | trivial | rfl | exact ⟨_, rfl, rfl, rfl, .inl ⟨rfl, rfl⟩⟩ | exact ⟨_, rfl, rfl, rfl, .inl ⟨cells_nums _ _ _, rfl⟩⟩ | exact ⟨_, rfl, rfl, rfl, .inl ⟨pvs_nums _ _, rfl⟩⟩ | exact ⟨_, rfl, rfl, rfl, .inr ⟨rfl, rfl⟩⟩)⟩
        rcases Nat.lt_or_ge j i with h2 | h2
        · exact hn j hj h2
        · have h3 : j = i := by omega
          subst h3; exact hZ
      · rw [m4 (by omega) (by assumption) rfl, insB, lo_eq bad _ i hi (fun j hj h => by simpa using hn j hj h) (fun hj => by simpa using hZ)]
        rw [show List.take i bad ++ a :: List.drop i bad = List.take i bad ++ [a] ++ List.drop i bad by simp]; rfl
      · rw [m4 (by omega) (by assumption) rfl, insB, lo_eq bad _ i hi (fun j hj h => by simpa using hn j hj h) (fun hj => by omega)]
        rw [show List.take i bad ++ a :: List.drop i bad = List.take i bad ++ [a] ++ List.drop i bad by simp]; rfl
    · rw [m2 (by omega)]; rfl
  | some n =>
    unfold ownD at ho
    dsimp only at ho
    simp (config := { maxSteps := 2000000 }) (implicitDefEqProofs := false) (disch := first | omega | assumption | (simp only []; done) | fail) only [vop_assign, vcallee_assign, vop_alloc, vcallee_alloc, vop_box, vcallee_box, vop_load, vcallee_load, vcallee_value, vcal_fn, strip_pv, strip_ptr, strip_agg, strip_fn, optV_none, ev_tmp, ev_const, ev_func, ofConst_int, put_some, at_mk, fits_some, ↓look_cons, ↓vlook_t, ↓vlook_f, guard_none, ↓vrun_nil, ↓code_region, ↓code_seq, ↓onNormal_normal, load_ptr, vld_agg, blk_zero, box_eq, alloc_eq, val1_some, allOne_nil, allOne_cons, one_pv, enum_nil, enum_cons, evG_eq, ↓vrun_cons, ↓run1_some, ↓runG_true, ↓run2_none, ↓run2_some, ↓run3_some, at_hp, List.map_nil, dcells, List.toList_toArray, List.length_cons, List.length_nil, List.map_cons, List.map_nil, List.cons_append, List.nil_append, List.append_nil, List.take_succ_cons, List.take_nil, List.drop_zero, Option.map_some, ↓reduceIte, Nat.reduceAdd, Nat.reduceLT, Nat.reduceBEq, Int.reduceLT, Int.reduceNeg, Int.reduceAdd, Int.reduceBEq, Nat.zero_add, true_and, and_self, Bool.true_and, Bool.and_self, beq_self_eq_true, Nat.le_refl, Try.vt34, Try.vzero34, dec_t, Try.f21]
    skip
    repeat' (first
      | (refine vrunG_split (fun hZ => ?_) (fun hZ => ?_) <;> (try rw [hZ]) <;> (try simp only [decide_eq_true_eq, decide_eq_false_iff_not, Bool.or_eq_true, Bool.and_eq_true, Bool.or_eq_false_iff, Bool.and_eq_false_imp, Bool.not_eq_true', Bool.not_eq_false', beq_iff_eq, beq_eq_false_iff_ne, bne_iff_ne, bne_eq_false_iff_eq, ne_eq, Bool.not_eq_eq_eq_not, Bool.not_true, Bool.not_false] at hZ) <;> (try (first | rw [(hZ : _ = false)] | rw [(hZ : _ = true)])) <;> (try simp (config := { maxSteps := 2000000 }) (implicitDefEqProofs := false) (disch := first | omega | assumption | (simp only []; done) | fail) only [vop_move, vcallee_move, vop_assign, vcallee_assign, vop_pick, vcallee_pick, vop_build, vcallee_build, vop_load, vcallee_load, vop_store, vcallee_store, vop_binOp, vcallee_binOp, vop_fieldAddr, vcallee_fieldAddr, bin2_tmp, vpick_bool, strip_pv, strip_ptr, strip_agg, strip_tup, strip_opt, vstr_true, optV_none, optV_some, pickV_bool, ev_tmp, ev_const, ofConst_int, ofConst_bool, put_some, put_none, at_mk, fits_some, fits_none, ↓look_cons, ↓vlook_t, ↓vlook_f, guard_none, guard_some, vgof_bool, ↓vrun_nil, ↓code_region, ↓code_seq, ↓code_ret, ↓onNormal_normal, ↓onNormal_ret, frz_tup, frzT_agg, frzT_pv, frz1_pv, allSome_nil, allSome_cons, frzHeap_zero, res_two, vres_tmp, vres_cell, load_ptr, vld_one, vld_agg, store_ptr, vst_agg, blk_zero, blk_succ, set_zero, set_succ, allOne_nil, allOne_cons, one_pv, faddr_ptr, vfap_some, bin_int, int_add, int_geq, parts_nil, evG_eq, ↓vrun_cons, ↓run1_some, ↓runG_true, ↓runG_false, ↓run2_none, ↓run3_some, ↓code_cond, ↓vtest_bool, ↓vbr_true, ↓vpost_ret, vfin_some, vfin2_some, at_hp, pickV_t, List.map_nil, vbuild, vfill, V.splice, List.getElem?_cons_zero, List.getElem?_cons_succ, List.length_cons, List.length_nil, List.map_cons, List.map_nil, List.nil_append, List.append_nil, List.take_succ_cons, List.take_zero, List.take_nil, List.drop_succ_cons, List.drop_zero, List.drop_nil, Option.map_some, Option.bind_some, ↓reduceIte, reduceCtorEq, Nat.reduceAdd, Nat.reduceLT, Nat.reduceBEq, Int.reduceLT, Int.reduceNeg, Int.reduceAdd, Int.reduceBEq, Nat.zero_add, Nat.add_zero, true_and, and_self, or_true, Bool.not_true, Bool.not_false, Bool.or_true, Bool.true_and, Bool.and_self, b_beq_f, cond_false, beq_self_eq_true, Nat.le_refl, RetW, DV.wk, DV.wk.go, PV.wk, Try.vt3, Try.vt34, Try.vfield34x0, Try.vfield34x1, Try.vplaces34, Try.vzero34, wrap_i64_in, dec_t, dec_f, DV.nums, DV.nums.go]))
      | (refine vbr_split (fun hZ => ?_) (fun hZ => ?_) <;> (try rw [hZ]) <;> (try simp only [decide_eq_true_eq, decide_eq_false_iff_not, Bool.or_eq_true, Bool.and_eq_true, Bool.or_eq_false_iff, Bool.and_eq_false_imp, Bool.not_eq_true', Bool.not_eq_false', beq_iff_eq, beq_eq_false_iff_ne, bne_iff_ne, bne_eq_false_iff_eq, ne_eq, Bool.not_eq_eq_eq_not, Bool.not_true, Bool.not_false] at hZ) <;> (try (first | rw [(hZ : _ = false)] | rw [(hZ : _ = true)])) <;> (try simp (config := { maxSteps := 2000000 }) (implicitDefEqProofs := false) (disch := first | omega | assumption | (simp only []; done) | fail) only [vop_move, vcallee_move, vop_assign, vcallee_assign, vop_alloc, vcallee_alloc, vop_build, vcallee_build, vop_load, vcallee_load, vop_store, vcallee_store, vop_fieldAddr, vcallee_fieldAddr, vcallee_value, vcal_fn, strip_pv, strip_ptr, strip_agg, strip_fn, optV_none, ev_tmp, ev_const, ev_func, ofConst_int, put_some, put_none, at_mk, fits_some, fits_none, ↓look_cons, ↓vlook_t, ↓vlook_f, guard_none, ↓vrun_nil, ↓code_skip, ↓code_region, ↓code_seq, ↓code_block, ↓code_loop, ↓code_ret, ↓onNormal_normal, ↓onNormal_ret, frz_tup, frzT_agg, frzT_pv, frz1_pv, allSome_nil, allSome_cons, frzHeap_zero, res_two, vres_tmp, vres_cell, load_ptr, vld_one, vld_agg, store_ptr, vst_agg, blk_zero, blk_succ, set_zero, set_succ, alloc_eq, val1_some, allOne_nil, allOne_cons, one_pv, faddr_ptr, vfap_some, parts_nil, parts_cons, evG_eq, ↓vrun_cons, ↓run1_some, ↓runG_true, ↓run2_none, ↓run2_some, ↓run3_some, ↓vpost_ret, vfin_some, vfin2_some, at_hp, List.map_nil, dcells, vbuild, vfill, V.splice, List.getElem?_cons_zero, List.getElem?_cons_succ, List.length_cons, List.length_nil, List.map_cons, List.map_nil, List.cons_append, List.nil_append, List.append_nil, List.take_succ_cons, List.take_zero, List.take_nil, List.drop_succ_cons, List.drop_zero, List.drop_nil, Option.map_some, ↓reduceIte, reduceCtorEq, Nat.reduceAdd, Nat.reduceLT, Nat.reduceLeDiff, Nat.reduceBEq, Int.reduceLT, Int.reduceNeg, Int.reduceAdd, Int.reduceBEq, Nat.zero_add, Nat.add_zero, true_and, and_self, Bool.true_and, Bool.and_self, beq_self_eq_true, Nat.le_refl, RetW, DV.wk, DV.wk.go, PV.wk, Try.vt3, Try.vt32, Try.vt34, Try.vfield34x0, Try.vfield34x1, Try.vfield34x3, Try.vplaces34, Try.vzero34, dec_t, DV.nums, DV.nums.go]))
      | (refine vdrG_split (fun hZ => ?_) (fun hZ => ?_) <;> (try rw [hZ]) <;> (try simp only [decide_eq_true_eq, decide_eq_false_iff_not, Bool.or_eq_true, Bool.and_eq_true, Bool.or_eq_false_iff, Bool.and_eq_false_imp, Bool.not_eq_true', Bool.not_eq_false', beq_iff_eq, beq_eq_false_iff_ne, bne_iff_ne, bne_eq_false_iff_eq, ne_eq, Bool.not_eq_eq_eq_not, Bool.not_true, Bool.not_false] at hZ) <;> (try (first | rw [(hZ : _ = false)] | rw [(hZ : _ = true)])) <;> skip)
      | (refine vc_pure (hv) rfl ?_; (try simp (config := { maxSteps := 2000000 }) (implicitDefEqProofs := false) (disch := first | omega | assumption | (simp only []; done) | fail) only [vop_move, vcallee_move, vop_binOp, vcallee_binOp, vop_unOp, vcallee_unOp, bin2_int, strip_pv, optV_none, ev_tmp, ev_const, ofConst_int, put_some, at_mk, fits_some, ↓look_cons, ↓vlook_t, ↓vlook_f, guard_none, guard_some, vgof_bool, ↓vrun_nil, ↓code_skip, ↓code_region, ↓code_seq, ↓onNormal_normal, bin_int, int_lss, un_not, evG_eq, ↓vrun_cons, ↓run1_some, ↓runG_true, ↓run2_none, ↓run3_some, ↓runK_eq, ↓code_cond, ↓vtest_bool, ↓vbr_false, at_hp, List.getElem?_cons_zero, List.getElem?_cons_succ, Option.map_some, Option.bind_some, Nat.reduceLT, Nat.reduceBEq, Int.reduceLT, Int.reduceNeg, Int.reduceBEq, true_and, Bool.not_true, Bool.true_and, b_beq_f, beq_self_eq_true, dec_t]))
      | (refine vc_pure (hb) rfl ?_; (try simp (config := { maxSteps := 2000000 }) (implicitDefEqProofs := false) (disch := first | omega | assumption) only [optV_none, ev_tmp, put_some, at_mk, ↓look_cons, ↓vlook_t, ↓vrun_nil, ↓onNormal_normal, ↓runK_eq, ↓code_cond, ↓vtest_bool, Int.reduceNeg, beq_self_eq_true]))
      | (refine vc_pure (ho) rfl ?_; (try simp (config := { maxSteps := 2000000 }) (implicitDefEqProofs := false) (disch := first | omega | assumption | (simp only []; done) | fail) only [vop_move, vcallee_move, vop_assign, vcallee_assign, vop_load, vcallee_load, vop_extract, vcallee_extract, vcallee_value, vcal_fn, strip_pv, strip_ptr, strip_agg, strip_tup, strip_fn, optV_none, ev_tmp, ev_func, put_some, at_mk, fits_some, ↓look_cons, ↓vlook_t, ↓vlook_f, guard_none, ↓vrun_nil, ↓code_region, ↓code_seq, ↓onNormal_normal, load_ptr, vld_agg, blk_zero, ext_tup, evG_eq, ↓vrun_cons, ↓run1_some, ↓runG_true, ↓run2_none, ↓run2_some, ↓run3_some, ↓runK_eq, at_hp, List.map_nil, List.getElem?_cons_zero, List.getElem?_cons_succ, List.length_cons, List.length_nil, List.map_cons, List.map_nil, List.nil_append, List.append_nil, List.take_succ_cons, List.take_nil, List.drop_zero, Option.map_some, ↓reduceIte, Nat.reduceAdd, Nat.reduceLT, Nat.reduceBEq, Int.reduceLT, Int.reduceNeg, Int.reduceAdd, Int.reduceBEq, Nat.zero_add, true_and, Bool.true_and, beq_self_eq_true, Nat.le_refl, Try.vt34, dec_t]))
      | (refine vc_pure (hf) rfl ?_; (try simp (config := { maxSteps := 2000000 }) (implicitDefEqProofs := false) (disch := first | omega | assumption | (simp only []; done) | fail) only [vop_move, vcallee_move, vop_assign, vcallee_assign, vop_pick, vcallee_pick, vop_binOp, vcallee_binOp, vop_builtin, vcallee_builtin, bin2_int, vpick_bool, strip_pv, strip_opt, vstr_true, optV_none, optV_some, pickV_bool, ev_tmp, ev_const, ofConst_int, ofConst_bool, put_some, at_mk, fits_some, ↓look_cons, ↓vlook_t, ↓vlook_f, guard_none, guard_some, vgof_bool, ↓vrun_nil, ↓code_region, ↓code_seq, ↓onNormal_normal, bin_int, int_eql, len_sl, vlk_sl, bi_len, evG_eq, ↓vrun_cons, ↓run1_some, ↓runG_true, ↓run2_none, ↓run3_some, ↓runK_eq, ↓code_cond, ↓vtest_bool, at_hp, List.map_nil, List.getElem?_cons_zero, List.getElem?_cons_succ, List.map_cons, List.map_nil, Option.map_some, Option.bind_some, Nat.reduceLT, Nat.reduceBEq, Int.reduceLT, Int.reduceNeg, Int.reduceBEq, true_and, or_true, Bool.not_true, Bool.or_true, Bool.true_and, cond_true, beq_self_eq_true, fz_len, Try.vkind32, dec_t])))
    · rw [m2 (by omega)]; rfl
    · rw [m3 (by omega) (by assumption)]; rfl
    · rw [m5 (by omega) (by assumption) n rfl (by omega)]; rfl
    · have hM := m6 (by omega) (by assumption) n rfl (by omega)
      refine vloopW (fun s : {i : Nat // i ≤ bad.length ∧ ∀ j, ∀ hj : j < bad.length, j < i → bad[j] < a} => ⟨153, 0, [(11, .int .i64 s.1), (10, .ptr 2 0), (9, .pv (.sl (fz encI F))), (8, .bool true), (7, .int .i64 n), (4, .ptr 1 0), (2, .ptr 0 0), (1, .int .i64 a)], [⟨34, true, [.int .i64 pages, .int .i64 spares, .pv (.sl (fz encP places)), .pv (.sl (fz encI bad))]⟩, ⟨34, true, [.int .i64 0, .int .i64 0, .pv (.slc []), .pv (.slc [])]⟩, ⟨34, true, [.int .i64 pages, .int .i64 spares, .pv (.slc []), .pv (.slc [])]⟩]⟩) (fun s => bad.length - s.1) ⟨0, Nat.zero_le _, fun j _ h => by omega⟩ (.inl (by refine ⟨rfl, rfl, by simp, ?_, ?_, .inr ⟨?_, ?_⟩⟩ <;> (repeat' apply And.intro) <;> first | rfl | trivial | (intro _; first | rfl | apply cells_refs))) ?_
      rintro ⟨i, hi, hn⟩
      dsimp only
      have hg := fun h : i < bad.length => (by rw [← getD_eqQ bad i h 0]; exact fzI_get bad i h : (fz encI bad)[i]? = some [.lit (.int .i64 bad[i])])
      (try simp (config := { maxSteps := 2000000 }) (implicitDefEqProofs := false) (disch := first | omega | assumption | (simp only []; done) | fail) only [vop_move, vcallee_move, vop_load, vcallee_load, vop_binOp, vcallee_binOp, vop_fieldAddr, vcallee_fieldAddr, vop_builtin, vcallee_builtin, bin2_tmp, strip_pv, strip_ptr, optV_none, ev_tmp, put_some, at_mk, fits_some, ↓look_cons, ↓vlook_t, ↓vlook_f, guard_none, guard_some, vgof_bool, ↓code_region, ↓code_seq, load_ptr, vld_one, blk_zero, faddr_ptr, vfap_some, bin_int, int_lss, len_sl, vlk_sl, bi_len, evG_eq, ↓vrun_cons, ↓run1_some, ↓runG_true, ↓run2_none, ↓run3_some, at_hp, List.map_nil, List.getElem?_cons_zero, List.getElem?_cons_succ, List.map_cons, List.map_nil, Option.map_some, Option.bind_some, ↓reduceIte, reduceCtorEq, Nat.reduceLT, Nat.reduceBEq, Int.reduceLT, Int.reduceNeg, Int.reduceBEq, Nat.zero_add, true_and, Bool.true_and, b_beq_t, beq_self_eq_true, fz_len, Try.vt32, Try.vkind32, Try.vfield34x3, dec_t])
      repeat' (first
        | (refine vrunG_split (fun hZ => ?_) (fun hZ => ?_) <;> (try rw [hZ]) <;> (try simp only [decide_eq_true_eq, decide_eq_false_iff_not, Bool.or_eq_true, Bool.and_eq_true, Bool.or_eq_false_iff, Bool.and_eq_false_imp, Bool.not_eq_true', Bool.not_eq_false', beq_iff_eq, beq_eq_false_iff_ne, bne_iff_ne, bne_eq_false_iff_eq, ne_eq, Bool.not_eq_eq_eq_not, Bool.not_true, Bool.not_false] at hZ) <;> (try (first | rw [(hZ : _ = false)] | rw [(hZ : _ = true)])) <;> (try simp (config := { maxSteps := 2000000 }) (implicitDefEqProofs := false) (disch := first | omega | assumption | (simp only [List.length_cons, List.length_nil, Nat.zero_add]; done) | fail) only [vop_move, vcallee_move, vop_pick, vcallee_pick, vop_load, vcallee_load, vop_binOp, vcallee_binOp, vop_fieldAddr, vcallee_fieldAddr, vop_indexAddr, vcallee_indexAddr, bin2_tmp, vpick_bool, strip_pv, strip_ptr, strip_tup, strip_opt, vstr_true, optV_none, optV_some, pickV_bool, ev_tmp, ev_const, ofConst_bool, put_some, at_mk, fits_some, ↓look_cons, ↓vlook_t, ↓vlook_f, guard_none, guard_some, vgof_bool, ↓vrun_nil, ↓code_draw, ↓code_seq, ↓code_exit, ↓onNormal_normal, ↓onNormal_exit, ↓onBlock_exit, load_ptr, load_ip, vld_one, vldp_one, blk_zero, faddr_ptr, vfap_some, iaddr_sl, vias_some, bin_int, int_lss, evG_eq, ↓vrun_cons, ↓run1_some, ↓runG_true, ↓runG_false, ↓run2_none, ↓run3_some, ↓code_cond, ↓vtest_bool, ↓vbr_false, at_hp, pickV_f, List.getElem?_cons_zero, List.getElem?_cons_succ, Option.map_some, Option.bind_some, ↓reduceIte, reduceCtorEq, Nat.reduceLT, Nat.reduceBEq, Int.reduceLT, Int.reduceNeg, Int.reduceBEq, Int.toNat_natCast, Nat.zero_add, true_and, or_true, Bool.not_true, Bool.not_false, Bool.or_true, Bool.true_and, b_beq_t, cond_true, beq_self_eq_true, Try.vt3, Try.vt32, Try.velem32, Try.vfield34x3, dec_t, hg]))
        | (refine vbr_split (fun hZ => ?_) (fun hZ => ?_) <;> (try rw [hZ]) <;> (try simp only [decide_eq_true_eq, decide_eq_false_iff_not, Bool.or_eq_true, Bool.and_eq_true, Bool.or_eq_false_iff, Bool.and_eq_false_imp, Bool.not_eq_true', Bool.not_eq_false', beq_iff_eq, beq_eq_false_iff_ne, bne_iff_ne, bne_eq_false_iff_eq, ne_eq, Bool.not_eq_eq_eq_not, Bool.not_true, Bool.not_false] at hZ) <;> (try (first | rw [(hZ : _ = false)] | rw [(hZ : _ = true)])) <;> (try simp (config := { maxSteps := 2000000 }) (implicitDefEqProofs := false) (disch := first | omega | assumption | (simp only []; done) | fail) only [vop_move, vcallee_move, vop_assign, vcallee_assign, vop_binOp, vcallee_binOp, bin2_int, strip_pv, optV_none, ev_tmp, ev_const, ofConst_int, put_some, at_mk, fits_some, ↓look_cons, ↓vlook_t, ↓vlook_f, guard_none, ↓vrun_nil, ↓code_skip, ↓code_region, ↓code_draw, ↓code_seq, ↓code_block, ↓code_exit, ↓onNormal_normal, ↓onNormal_exit, ↓onBlock_normal, ↓onBlock_exit, bin_int, int_add, evG_eq, ↓vrun_cons, ↓run1_some, ↓runG_true, ↓run2_none, ↓run3_some, at_hp, Option.map_some, ↓reduceIte, Nat.reduceLT, Nat.reduceBEq, Int.reduceLT, Int.reduceNeg, Int.reduceBEq, true_and, Bool.true_and, beq_self_eq_true, wrap_i64_in, dec_t]))
        | (refine vdrG_split (fun hZ => ?_) (fun hZ => ?_) <;> (try rw [hZ]) <;> (try simp only [decide_eq_true_eq, decide_eq_false_iff_not, Bool.or_eq_true, Bool.and_eq_true, Bool.or_eq_false_iff, Bool.and_eq_false_imp, Bool.not_eq_true', Bool.not_eq_false', beq_iff_eq, beq_eq_false_iff_ne, bne_iff_ne, bne_eq_false_iff_eq, ne_eq, Bool.not_eq_eq_eq_not, Bool.not_true, Bool.not_false] at hZ) <;> (try (first | rw [(hZ : _ = false)] | rw [(hZ : _ = true)])) <;> skip)
        | (refine vspine (id := 15) [0, 1, 2, 3, 5, 8, 9, 10, 11] [⟨[6], [], 4, [0, 1, 2, 5, 8, 9, 10, 11], []⟩, ⟨[6], [6], 7, [0, 1, 2, 3, 5, 8, 9, 10, 11], []⟩, ⟨[], [], 12, [0, 1, 2, 3, 5, 8, 9, 10], [13]⟩, ⟨[], [], 14, [], []⟩] (by kernel_rfl) (by kernel_rfl) ?_; (try simp (config := { maxSteps := 2000000 }) (implicitDefEqProofs := false) (disch := first | omega | assumption | (simp only []; done) | (simp only [List.length_append, List.length_cons, List.length_nil, List.length_take] <;> omega) | fail) only [vop_move, vcallee_move, foot_move, vop_assign, vcallee_assign, vop_buildSlice, vcallee_buildSlice, vop_load, vcallee_load, vop_store, vcallee_store, vop_unOp, vcallee_unOp, vop_slice, vcallee_slice, vop_fieldAddr, vcallee_fieldAddr, foot_fieldAddr, foot_load, foot_slice, vop_builtin, vcallee_builtin, ptrNo_ptr, strip_pv, strip_ptr, strip_own, optV_none, ev_tmp, ev_const, ofConst_int, ofConst_bool, ofConst_slice, put_some, put_none, at_mk, fits_some, fits_none, ↓look_cons, ↓vlook_t, ↓vlook_f, guard_none, ↓vrun_nil, ↓code_skip, ↓code_region, ↓code_seq, ↓code_block, ↓code_loop, ↓onNormal_normal, load_ptr, vld_one, store_ptr, vst_one, blk_zero, blk_succ, set_zero, set_succ, allOne_nil, allOne_cons, one_pv, one_own, faddr_ptr, vfap_some, un_not, bi_append, ap2_slc, ap2_own, parts_nil, parts_cons, evG_eq, ↓vrun_cons, ↓run1_some, ↓runG_true, ↓run2_none, ↓run3_some, ↓code_cond, ↓vtest_bool, ↓vbr_false, at_hp, slice_pv, slice_sl_hi, slice_sl_lo, pvs, List.flatten_nil, List.map_nil, dcells, vfill, vbuildSlice, V.mk, slOf, vsrc, vbase, vappend, V.kill, V.splice, List.toList_toArray, List.getElem?_cons_zero, List.getElem?_cons_succ, List.getElem?_nil, List.length_cons, List.length_nil, List.map_cons, List.map_nil, List.cons_append, List.nil_append, List.append_nil, List.take_succ_cons, List.take_zero, List.take_nil, List.drop_succ_cons, List.drop_zero, List.drop_nil, List.set_cons_zero, List.set_cons_succ, Option.map_some, Option.map_none, ↓reduceIte, reduceCtorEq, Nat.reduceAdd, Nat.reduceLT, Nat.reduceLeDiff, Nat.reduceBEq, Int.reduceLT, Int.reduceNeg, Int.reduceAdd, Int.reduceBEq, Int.toNat_natCast, Nat.zero_add, Nat.mul_one, true_and, and_self, true_or, or_false, Bool.not_true, Bool.true_or, Bool.or_false, Bool.true_and, Bool.and_self, beq_self_eq_true, Nat.le_refl, ↓vsp_nil, ↓vsp_cons, ↓vspK_eq, vspC_true, vspR_eq, pick_nil, pick_cons, pickO_some, creas_nil, creas_cons, creaOk_eq, creaM_own, creaOk2_some, agree_nil, agree_cons, agree1_some, sameAt_nil, sameAt_cons, Op.operands, ptrNo_pv, fz_len, cellsI_len, fz_flat, DV.wk.go, Try.vzero3, Try.bytes3, Try.vt32, Try.velem32, Try.notInt32, Try.vfield34x3, dec_t, DV.nums, DV.nums.go, allN, appN, slkN, srcN, mem_ok, List.length_append, List.length_take, List.length_drop, List.take_length, app1N, mem_ok, List.length_append, List.length_take, List.length_drop, List.take_length])))
      · refine ⟨⟨i + 1, by omega, fun j hj h => ?_⟩, by show bad.length - (i + 1) < bad.length - i; omega, (by refine gc_of (keep := [0, 1, 2]) rfl rfl rfl (by decide) ?_ ?_ <;> (repeat' apply And.intro) <;> first | trivial | rfl | exact ⟨_, rfl, rfl, rfl, .inl ⟨rfl, rfl⟩⟩ | exact ⟨_, rfl, rfl, rfl, .inl ⟨cells_nums _ _ _, rfl⟩⟩ | exact ⟨_, rfl, rfl, rfl, .inl ⟨pvs_nums _ _, rfl⟩⟩ | exact ⟨_, rfl, rfl, rfl, .inr ⟨rfl, rfl⟩⟩)⟩
        rcases Nat.lt_or_ge j i with h2 | h2
        · exact hn j hj h2
        · have h3 : j = i := by omega
          subst h3; exact hZ
      all_goals
        have hin : insB bad a = bad.take i ++ [a] ++ bad.drop i := by
          rw [insB, lo_eq bad _ i hi (fun j hj h => by simpa using hn j hj h) (fun hj => by first | (simpa using hZ) | omega)]
          simp
        have hil : (bad.take i ++ [a] ++ bad.drop i).length = min i bad.length + 1 + (bad.length - i) := by simp; omega
        rw [hin] at hM
        generalize bad.take i ++ [a] ++ bad.drop i = nb at *
        rw [← hil]
        clear hil hin hn hg
        refine VLoop.nilOwnC 2 2 61 2 rfl rfl ?_
        simp (config := { maxSteps := 2000000 }) (implicitDefEqProofs := false) (disch := first | omega | assumption) only [List.length_cons, List.length_nil, List.cons_append, List.nil_append, List.set_cons_zero, List.set_cons_succ, Nat.reduceAdd, Int.reduceAdd, Nat.zero_add]
        have hpe := mrest_setP n (F.getD 0 0) places hpasc
        refine vloopW (fun s : MW places n (F.getD 0 0) => ⟨153, 0, [(13, .int .i64 s.i), (12, .bool s.d), (10, .ptr 2 0), (9, .pv (.sl (fz encI F))), (7, .int .i64 n), (4, .ptr 1 0), (2, .ptr 0 0)], [⟨34, true, [.int .i64 pages, .int .i64 spares, .pv (.sl (fz encP places)), .pv (.sl (fz encI bad))]⟩, ⟨34, true, [.int .i64 0, .int .i64 0, .pv (.slc []), .pv (.slc [])]⟩, ⟨34, true, [.int .i64 pages, .int .i64 spares, .own 4 2 0 s.o.length, .own 3 1 0 nb.length]⟩, ⟨3, true, cells encI nb⟩, ⟨61, true, cells encP s.o⟩]⟩) (fun s => places.length - s.i) ⟨0, false, [], Nat.zero_le _, rfl, Nat.zero_le _⟩ (by exact (by refine gc_of (keep := [0, 1, 2, 6, 7]) rfl rfl rfl (by decide) ?_ ?_ <;> (repeat' apply And.intro) <;> first | trivial | rfl | exact ⟨_, rfl, rfl, rfl, .inl ⟨rfl, rfl⟩⟩ | exact ⟨_, rfl, rfl, rfl, .inl ⟨cells_nums _ _ _, rfl⟩⟩ | exact ⟨_, rfl, rfl, rfl, .inl ⟨pvs_nums _ _, rfl⟩⟩ | exact ⟨_, rfl, rfl, rfl, .inr ⟨rfl, rfl⟩⟩)) ?_
        intro s
        obtain ⟨j, d, o, hj, he, hol⟩ := s
        have hst : ∀ h : j < places.length, o ++ mrest n (F.getD 0 0) d (places[j] :: places.drop (j + 1)) = mrest n (F.getD 0 0) false places := fun h => MW.step ⟨j, d, o, hj, he, hol⟩ h
        have hfin : ¬ j < places.length → o ++ mrest n (F.getD 0 0) d [] = mrest n (F.getD 0 0) false places := fun h => MW.fin ⟨j, d, o, hj, he, hol⟩ h
        dsimp only at *
        clear he
        have hg0 := fun h : 0 < F.length => fzI_get F 0 h
        have hgp := fun h : j < places.length => fzP_at places j h
        have happ := app1P o ⟨n, F.getD 0 0⟩
        dsimp only at happ
        cases d
        all_goals (try simp (config := { maxSteps := 2000000 }) (implicitDefEqProofs := false) (disch := first | omega | assumption | (simp only []; done) | fail) only [vop_move, vcallee_move, vop_load, vcallee_load, vop_binOp, vcallee_binOp, vop_fieldAddr, vcallee_fieldAddr, vop_builtin, vcallee_builtin, bin2_tmp, strip_pv, strip_ptr, optV_none, ev_tmp, put_some, at_mk, fits_some, ↓look_cons, ↓vlook_t, ↓vlook_f, guard_none, ↓vrun_nil, ↓code_region, ↓code_seq, ↓onNormal_normal, load_ptr, vld_one, blk_zero, faddr_ptr, vfap_some, bin_int, int_lss, len_sl, vlk_sl, bi_len, evG_eq, ↓vrun_cons, ↓run1_some, ↓runG_true, ↓run2_none, ↓run3_some, ↓code_cond, ↓vtest_bool, at_hp, List.map_nil, List.getElem?_cons_zero, List.getElem?_cons_succ, List.map_cons, List.map_nil, Option.map_some, ↓reduceIte, reduceCtorEq, Nat.reduceLT, Nat.reduceBEq, Int.reduceLT, Int.reduceBEq, Nat.zero_add, true_and, Bool.true_and, beq_self_eq_true, fz_len, Try.vt31, Try.vkind31, Try.vfield34x2, dec_t])
        repeat' (first
          | (refine vrunG_split (fun hZ => ?_) (fun hZ => ?_) <;> (try rw [hZ]) <;> (try simp only [decide_eq_true_eq, decide_eq_false_iff_not, Bool.or_eq_true, Bool.and_eq_true, Bool.or_eq_false_iff, Bool.and_eq_false_imp, Bool.not_eq_true', Bool.not_eq_false', beq_iff_eq, beq_eq_false_iff_ne, bne_iff_ne, bne_eq_false_iff_eq, ne_eq, Bool.not_eq_eq_eq_not, Bool.not_true, Bool.not_false] at hZ) <;> (try (first | rw [(hZ : _ = false)] | rw [(hZ : _ = true)])) <;> skip)
          | (refine vbr_split (fun hZ => ?_) (fun hZ => ?_) <;> (try rw [hZ]) <;> (try simp only [decide_eq_true_eq, decide_eq_false_iff_not, Bool.or_eq_true, Bool.and_eq_true, Bool.or_eq_false_iff, Bool.and_eq_false_imp, Bool.not_eq_true', Bool.not_eq_false', beq_iff_eq, beq_eq_false_iff_ne, bne_iff_ne, bne_eq_false_iff_eq, ne_eq, Bool.not_eq_eq_eq_not, Bool.not_true, Bool.not_false] at hZ) <;> (try (first | rw [(hZ : _ = false)] | rw [(hZ : _ = true)])) <;> (try simp (config := { maxSteps := 2000000 }) (implicitDefEqProofs := false) (disch := first | omega | assumption | (simp only [List.length_cons, List.length_nil, Nat.zero_add, Nat.reduceAdd]; done) | fail) only [vop_move, vcallee_move, vop_assign, vcallee_assign, vop_pick, vcallee_pick, vop_load, vcallee_load, vop_store, vcallee_store, vop_binOp, vcallee_binOp, vop_unOp, vcallee_unOp, vop_fieldAddr, vcallee_fieldAddr, vop_indexAddr, vcallee_indexAddr, bin2_tmp, bin2_int, vpick_bool, strip_pv, strip_ptr, strip_ip, strip_agg, strip_tup, strip_opt, vstr_true, optV_none, optV_some, pickV_bool, ev_tmp, ev_const, ofConst_int, ofConst_bool, put_some, put_none, at_mk, fits_some, fits_none, ↓look_cons, ↓vlook_t, ↓vlook_f, guard_none, guard_some, vgof_bool, ↓vrun_nil, ↓code_skip, ↓code_region, ↓code_draw, ↓code_seq, ↓code_block, ↓code_exit, ↓code_ret, ↓onNormal_normal, ↓onNormal_exit, ↓onBlock_normal, ↓onBlock_exit, frz_tup, frzT_agg, frzT_pv, frz1_pv, frz1_own, allSome_nil, allSome_cons, frzHeap_zero, res_two, vres_tmp, vres_cell, load_ptr, load_ip, vld_one, vld_agg, vldp_one, store_ptr, vst_agg, blk_zero, blk_succ, set_zero, set_succ, allOne_nil, allOne_cons, one_pv, one_own, faddr_ptr, vfap_some, faddr_ip, vfai_some, iaddr_sl, vias_some, bin_int, int_add, int_neq, int_geq, un_not, evG_eq, ↓vrun_cons, ↓run1_some, ↓runG_true, ↓runG_false, ↓run2_none, ↓run3_some, ↓code_cond, ↓vtest_bool, ↓vbr_true, ↓vbr_false, ↓vpost_ret, vfin_some, vfin2_some, at_hp, pickV_f, List.map_nil, V.splice, List.getElem?_cons_zero, List.getElem?_cons_succ, List.length_cons, List.length_nil, List.map_cons, List.map_nil, List.nil_append, List.append_nil, List.take_succ_cons, List.take_zero, List.take_nil, List.drop_succ_cons, List.drop_zero, List.drop_nil, Option.map_some, Option.bind_some, ↓reduceIte, reduceCtorEq, Nat.reduceAdd, Nat.reduceLT, Nat.reduceBEq, Int.reduceLT, Int.reduceAdd, Int.reduceBEq, Int.toNat_natCast, Nat.zero_add, true_and, and_self, or_true, Bool.not_true, Bool.not_false, Bool.or_true, Bool.true_and, Bool.and_self, b_beq_t, cond_true, beq_self_eq_true, Nat.le_refl, frzP_own, frzC_I, RetW, DV.wk, DV.wk.go, PV.wk, Try.vt3, Try.vt31, Try.velem31, Try.vt34, Try.vfield34x2, Try.vfield61x0, wrap_i64_in, dec_t, int_bne_t, DV.nums, DV.nums.go, hgp, frzP]))
          | (refine vdrG_split (fun hZ => ?_) (fun hZ => ?_) <;> (try rw [hZ]) <;> (try simp only [decide_eq_true_eq, decide_eq_false_iff_not, Bool.or_eq_true, Bool.and_eq_true, Bool.or_eq_false_iff, Bool.and_eq_false_imp, Bool.not_eq_true', Bool.not_eq_false', beq_iff_eq, beq_eq_false_iff_ne, bne_iff_ne, bne_eq_false_iff_eq, ne_eq, Bool.not_eq_eq_eq_not, Bool.not_true, Bool.not_false] at hZ) <;> (try (first | rw [(hZ : _ = false)] | rw [(hZ : _ = true)])) <;> skip)
          | (refine vspine (id := 24) [0, 1, 2, 3, 4, 5, 6] [⟨[7], [7], 8, [0, 2, 3, 4, 5, 6], [9]⟩, ⟨[], [], 10, [], []⟩, ⟨[], [], 11, [], []⟩] (by kernel_rfl) (by kernel_rfl) ?_; (try simp (config := { maxSteps := 2000000 }) (implicitDefEqProofs := false) (disch := first | omega | assumption | (simp only [List.length_cons, List.length_nil, Nat.zero_add, Nat.reduceAdd]; done) | fail) only [vop_move, vcallee_move, foot_move, vop_assign, vcallee_assign, vop_build, vcallee_build, foot_build, vop_buildSlice, vcallee_buildSlice, vop_load, vcallee_load, vop_store, vcallee_store, vop_binOp, vcallee_binOp, vop_fieldAddr, vcallee_fieldAddr, foot_fieldAddr, vop_indexAddr, vcallee_indexAddr, foot_indexAddr, foot_load, vop_builtin, vcallee_builtin, ptrNo_ip, bin2_tmp, strip_pv, strip_ptr, strip_own, strip_ip, strip_agg, optV_none, ev_tmp, ev_const, ofConst_int, ofConst_bool, put_some, put_none, at_mk, fits_some, fits_none, ↓look_cons, ↓vlook_t, ↓vlook_f, guard_none, ↓vrun_nil, ↓code_region, ↓code_seq, ↓onNormal_normal, load_ptr, load_ip, vld_one, vldp_one, store_ptr, vst_one, blk_zero, blk_succ, set_zero, set_succ, allOne_nil, allOne_cons, one_pv, one_own, faddr_ptr, vfap_some, faddr_ip, vfai_some, iaddr_sl, vias_some, bin_int, int_neq, bi_append, ap2_own, parts_nil, parts_cons, evG_eq, ↓vrun_cons, ↓run1_some, ↓runG_true, ↓run2_none, ↓run3_some, ↓code_cond, ↓vtest_bool, at_hp, List.map_nil, dcells, vbuild, vfill, vbuildSlice, V.mk, vsrc, vbase, vappend, V.kill, V.splice, List.toList_toArray, List.getElem?_cons_zero, List.getElem?_cons_succ, List.length_cons, List.length_nil, List.map_cons, List.map_nil, List.cons_append, List.nil_append, List.append_nil, List.take_succ_cons, List.take_zero, List.take_nil, List.drop_succ_cons, List.drop_zero, List.drop_nil, List.set_cons_zero, List.set_cons_succ, Option.map_some, ↓reduceIte, reduceCtorEq, Nat.reduceAdd, Nat.reduceLT, Nat.reduceLeDiff, Nat.reduceBEq, Int.reduceToNat, Int.reduceLT, Int.reduceAdd, Int.reduceBEq, Int.toNat_natCast, Nat.zero_add, Nat.zero_mul, Nat.one_mul, true_and, and_self, Bool.true_and, Bool.and_self, beq_self_eq_true, Nat.le_refl, ↓vsp_nil, ↓vsp_cons, ↓vspK_eq, vspC_true, vspR_eq, pick_nil, pick_cons, pickO_some, creas_nil, creas_cons, creaOk_eq, creaM_own, creaOk2_some, agree_nil, agree_cons, agree1_some, sameAt_nil, Op.operands, DV.wk.go, Try.vt3, Try.vt31, Try.velem31, Try.notInt31, Try.velem32, Try.vfield34x2, Try.vfield61x0, Try.vplaces61, Try.vzero61, Try.bytes61, dec_t, DV.nums, DV.nums.go, hg0, hgp, mem_ok, lenP, allP, mem_ok, happ]))
          | (refine vspine (id := 26) [0, 1, 2, 3, 4, 5, 6] [⟨[7], [7], 8, [0, 2, 3, 4, 5, 6], [9]⟩, ⟨[], [], 10, [], []⟩] (by kernel_rfl) (by kernel_rfl) ?_; (try simp (config := { maxSteps := 2000000 }) (implicitDefEqProofs := false) (disch := first | omega | assumption | (simp only [List.length_cons, List.length_nil, Nat.zero_add, Nat.reduceAdd]; done) | (simp only [List.length_append, List.length_cons, List.length_nil] <;> omega) | fail) only [vop_move, vcallee_move, foot_move, vop_assign, vcallee_assign, vop_buildSlice, vcallee_buildSlice, vop_load, vcallee_load, vop_store, vcallee_store, vop_binOp, vcallee_binOp, vop_fieldAddr, vcallee_fieldAddr, foot_fieldAddr, vop_indexAddr, vcallee_indexAddr, foot_indexAddr, foot_load, vop_builtin, vcallee_builtin, ptrNo_ptr, ptrNo_ip, bin2_int, strip_pv, strip_ptr, strip_own, strip_ip, strip_agg, optV_none, ev_tmp, ev_const, ofConst_int, put_some, put_none, at_mk, fits_some, fits_none, ↓look_cons, ↓vlook_t, ↓vlook_f, guard_none, ↓vrun_nil, ↓code_region, ↓onNormal_normal, ↓onBlock_normal, load_ptr, load_ip, vld_one, vldp_agg, store_ptr, vst_one, blk_zero, blk_succ, set_zero, set_succ, allOne_nil, allOne_cons, one_pv, one_own, faddr_ptr, vfap_some, iaddr_sl, vias_some, bin_int, int_add, bi_append, ap2_own, parts_nil, parts_cons, evG_eq, ↓vrun_cons, ↓run1_some, ↓runG_true, ↓run2_none, ↓run3_some, at_hp, List.map_nil, dcells, vfill, vbuildSlice, V.mk, vsrc, vbase, vappend, V.kill, V.splice, List.toList_toArray, List.getElem?_cons_zero, List.getElem?_cons_succ, List.length_cons, List.length_nil, List.map_cons, List.map_nil, List.cons_append, List.nil_append, List.append_nil, List.take_succ_cons, List.take_zero, List.take_nil, List.drop_succ_cons, List.drop_zero, List.drop_nil, List.set_cons_zero, List.set_cons_succ, Option.map_some, ↓reduceIte, reduceCtorEq, Nat.reduceAdd, Nat.reduceLT, Nat.reduceLeDiff, Nat.reduceBEq, Int.reduceLT, Int.reduceAdd, Int.reduceBEq, Int.toNat_natCast, Nat.zero_add, Nat.zero_mul, Nat.one_mul, true_and, and_self, Bool.true_and, Bool.and_self, beq_self_eq_true, Nat.le_refl, ↓vsp_nil, ↓vsp_cons, ↓vspK_eq, vspC_true, vspR_eq, pick_nil, pick_cons, pickO_some, creas_nil, creas_cons, creaOk_eq, creaM_own, creaOk2_some, agree_nil, agree_cons, agree1_some, sameAt_nil, sameAt_cons, Op.operands, DV.wk.go, Try.vt31, Try.velem31, Try.notInt31, Try.vfield34x2, Try.vt61, Try.vzero61, Try.bytes61, wrap_i64_in, dec_t, DV.nums, DV.nums.go, hgp, mem_ok, List.length_append, lenP, allP, mem_ok, List.length_append, app1P]))
          | (refine vspine (id := 28) [0, 1, 2, 3, 4, 5, 6] [⟨[7], [7], 8, [0, 2, 3, 4, 5, 6], [9]⟩, ⟨[], [], 10, [], []⟩] (by kernel_rfl) (by kernel_rfl) ?_; (try simp (config := { maxSteps := 2000000 }) (implicitDefEqProofs := false) (disch := first | omega | assumption | (simp only [List.length_cons, List.length_nil, Nat.zero_add]; done) | (simp only [List.length_append, List.length_cons, List.length_nil] <;> omega) | fail) only [vop_move, vcallee_move, foot_move, vop_assign, vcallee_assign, vop_build, vcallee_build, foot_build, vop_buildSlice, vcallee_buildSlice, vop_load, vcallee_load, vop_store, vcallee_store, vop_fieldAddr, vcallee_fieldAddr, foot_fieldAddr, vop_indexAddr, vcallee_indexAddr, foot_indexAddr, foot_load, vop_builtin, vcallee_builtin, ptrNo_ip, strip_pv, strip_ptr, strip_own, strip_ip, strip_agg, optV_none, ev_tmp, ev_const, ofConst_int, put_some, put_none, at_mk, fits_some, fits_none, ↓look_cons, ↓vlook_t, ↓vlook_f, guard_none, ↓vrun_nil, ↓code_region, ↓code_seq, ↓code_ret, ↓onNormal_normal, frz_tup, frzT_agg, frzT_pv, frz1_pv, frz1_own, allSome_nil, allSome_cons, frzHeap_zero, res_two, vres_tmp, vres_cell, load_ptr, load_ip, vld_one, vld_agg, vldp_one, store_ptr, vst_one, vst_agg, blk_zero, blk_succ, set_zero, set_succ, allOne_nil, allOne_cons, one_pv, one_own, faddr_ptr, vfap_some, iaddr_sl, vias_some, bi_append, ap2_own, parts_nil, parts_cons, evG_eq, ↓vrun_cons, ↓run1_some, ↓runG_true, ↓run2_none, ↓run3_some, ↓vpost_ret, vfin_some, vfin2_some, at_hp, List.map_nil, dcells, vbuild, vfill, vbuildSlice, V.mk, vsrc, vbase, vappend, V.kill, V.splice, List.toList_toArray, List.getElem?_cons_zero, List.getElem?_cons_succ, List.length_cons, List.length_nil, List.map_cons, List.map_nil, List.cons_append, List.nil_append, List.append_nil, List.take_succ_cons, List.take_zero, List.take_nil, List.drop_succ_cons, List.drop_zero, List.drop_nil, List.set_cons_zero, List.set_cons_succ, Option.map_some, ↓reduceIte, reduceCtorEq, Nat.reduceAdd, Nat.reduceLT, Nat.reduceLeDiff, Nat.reduceBEq, Int.reduceToNat, Int.reduceLT, Int.reduceAdd, Int.reduceBEq, Nat.zero_add, Nat.zero_mul, Nat.one_mul, true_and, and_self, Bool.true_and, Bool.and_self, beq_self_eq_true, Nat.le_refl, ↓vsp_nil, ↓vsp_cons, ↓vspK_eq, vspC_true, vspR_eq, pick_nil, pick_cons, pickO_some, creas_nil, creas_cons, creaOk_eq, creaM_own, creaOk2_some, agree_nil, agree_cons, agree1_some, sameAt_nil, Op.operands, frzP_own, frzC_I, RetW, DV.wk, DV.wk.go, PV.wk, Try.vt3, Try.vt31, Try.velem31, Try.notInt31, Try.velem32, Try.vt34, Try.vfield34x2, Try.vplaces61, Try.vzero61, Try.bytes61, dec_t, DV.nums, DV.nums.go, hg0, mem_ok, lenP, allP, frzP, mem_ok, happ])))
        all_goals first
          | (rw [hM, ← hpe, ← hfin (by omega)]; first | rfl | (rw [mrest, List.append_nil]; rfl))
          | (refine ⟨⟨j + 1, true, o ++ [(⟨n, F.getD 0 0⟩ : Pl)] ++ [places[j]], by omega, by rw [← hst (by omega), mrest, if_pos (by omega), if_neg (by omega), decide_eq_true (by omega)]; simp, by simp only [List.length_append, List.length_cons, List.length_nil]; omega⟩, by show places.length - (j + 1) < places.length - j; omega, ?_⟩
             dsimp only
             simp only [List.length_append, List.length_cons, List.length_nil]
             exact (by refine gc_of (keep := [0, 1, 2, 3, 8]) rfl rfl rfl (by decide) ?_ ?_ <;> (repeat' apply And.intro) <;> first | trivial | rfl | exact ⟨_, rfl, rfl, rfl, .inl ⟨rfl, rfl⟩⟩ | exact ⟨_, rfl, rfl, rfl, .inl ⟨cells_nums _ _ _, rfl⟩⟩ | exact ⟨_, rfl, rfl, rfl, .inl ⟨pvs_nums _ _, rfl⟩⟩ | exact ⟨_, rfl, rfl, rfl, .inr ⟨rfl, rfl⟩⟩))
          | (refine ⟨⟨j + 1, true, o ++ [(⟨n, F.getD 0 0⟩ : Pl)], by omega, by rw [← hst (by omega), mrest, if_pos (by omega), if_pos (by omega), decide_eq_true (by omega)]; simp, by simp only [List.length_append, List.length_cons, List.length_nil]; omega⟩, by show places.length - (j + 1) < places.length - j; omega, ?_⟩
             dsimp only
             simp only [List.length_append, List.length_cons, List.length_nil]
             exact (by refine gc_of (keep := [0, 1, 2, 3, 6]) rfl rfl rfl (by decide) ?_ ?_ <;> (repeat' apply And.intro) <;> first | trivial | rfl | exact ⟨_, rfl, rfl, rfl, .inl ⟨rfl, rfl⟩⟩ | exact ⟨_, rfl, rfl, rfl, .inl ⟨cells_nums _ _ _, rfl⟩⟩ | exact ⟨_, rfl, rfl, rfl, .inl ⟨pvs_nums _ _, rfl⟩⟩ | exact ⟨_, rfl, rfl, rfl, .inr ⟨rfl, rfl⟩⟩))
          | (refine ⟨⟨j + 1, false, o ++ [places[j]], by omega, by rw [← hst (by omega), mrest, if_neg (by omega), if_neg (by omega), decide_eq_false (by omega)]; simp, by simp only [List.length_append, List.length_cons, List.length_nil]; omega⟩, by show places.length - (j + 1) < places.length - j; omega, ?_⟩
             dsimp only
             simp only [List.length_append, List.length_cons, List.length_nil]
             exact (by refine gc_of (keep := [0, 1, 2, 3, 6]) rfl rfl rfl (by decide) ?_ ?_ <;> (repeat' apply And.intro) <;> first | trivial | rfl | exact ⟨_, rfl, rfl, rfl, .inl ⟨rfl, rfl⟩⟩ | exact ⟨_, rfl, rfl, rfl, .inl ⟨cells_nums _ _ _, rfl⟩⟩ | exact ⟨_, rfl, rfl, rfl, .inl ⟨pvs_nums _ _, rfl⟩⟩ | exact ⟨_, rfl, rfl, rfl, .inr ⟨rfl, rfl⟩⟩))
          | (refine ⟨⟨j + 1, true, o ++ [places[j]], by omega, by rw [← hst (by omega), mrest, if_neg (by omega)]; simp, by simp only [List.length_append, List.length_cons, List.length_nil]; omega⟩, by show places.length - (j + 1) < places.length - j; omega, ?_⟩
             dsimp only
             simp only [List.length_append, List.length_cons, List.length_nil]
             exact (by refine gc_of (keep := [0, 1, 2, 3, 6]) rfl rfl rfl (by decide) ?_ ?_ <;> (repeat' apply And.intro) <;> first | trivial | rfl | exact ⟨_, rfl, rfl, rfl, .inl ⟨rfl, rfl⟩⟩ | exact ⟨_, rfl, rfl, rfl, .inl ⟨cells_nums _ _ _, rfl⟩⟩ | exact ⟨_, rfl, rfl, rfl, .inl ⟨pvs_nums _ _, rfl⟩⟩ | exact ⟨_, rfl, rfl, rfl, .inr ⟨rfl, rfl⟩⟩))
          | (refine ⟨⟨j + 1, true, o, by omega, by rw [← hst (by omega), mrest, if_pos (by omega)]; all_goals simp, by omega⟩, by show places.length - (j + 1) < places.length - j; omega, ?_⟩
             dsimp only
             exact (by refine gc_of (keep := [0, 1, 2, 3, 4]) rfl rfl rfl (by decide) ?_ ?_ <;> (repeat' apply And.intro) <;> first | trivial | rfl | exact ⟨_, rfl, rfl, rfl, .inl ⟨rfl, rfl⟩⟩ | exact ⟨_, rfl, rfl, rfl, .inl ⟨cells_nums _ _ _, rfl⟩⟩ | exact ⟨_, rfl, rfl, rfl, .inl ⟨pvs_nums _ _, rfl⟩⟩ | exact ⟨_, rfl, rfl, rfl, .inr ⟨rfl, rfl⟩⟩))
          | skip
    · rw [m2 (by omega)]; rfl
end Go.Proofs.Ytnilcppifcekmaa
namespace Go.Proofs.Ytnilcppifcekmaa
open Go.V Go
theorem rnew_v (n m : Int) : VCalls Try.prog 20 [.int .i64 n, .int .i64 m] [] (Ret (if (⟨n, m, [], []⟩ : Rm).okB = true then .tup [.agg (⟨n, m, [], []⟩ : Rm).d, .int .i64 0] else .tup [.agg Rm0.d, .int .i64 1])) := by
  refine VCalls.unwk ?_
  refine dd Try.func20 ?_
  have hv := qrvalid_v ⟨n, m, [], []⟩ ⟨by simp, by simp⟩
  simp (config := { maxSteps := 2000000 }) (implicitDefEqProofs := false) (disch := first | omega | assumption | (simp only []; done) | fail) only [vop_move, vcallee_move, vop_assign, vcallee_assign, vop_alloc, vcallee_alloc, vop_build, vcallee_build, vop_load, vcallee_load, vop_store, vcallee_store, vcallee_value, vcal_fn, strip_pv, strip_ptr, strip_agg, strip_fn, optV_none, ev_tmp, ev_const, ev_func, ofConst_int, put_some, put_none, at_mk, fits_some, fits_none, ↓look_cons, ↓vlook_t, ↓vlook_f, guard_none, ↓vrun_nil, ↓code_region, ↓code_seq, ↓onNormal_normal, load_ptr, vld_agg, store_ptr, vst_agg, blk_zero, blk_succ, set_zero, set_succ, alloc_eq, val1_some, allOne_nil, allOne_cons, one_pv, parts_nil, parts_cons, enum_nil, enum_cons, evG_eq, ↓vrun_cons, ↓run1_some, ↓runG_true, ↓run2_none, ↓run2_some, ↓run3_some, at_hp, List.map_nil, dcells, vbuild, vfill, V.splice, List.toList_toArray, List.getElem?_cons_zero, List.getElem?_cons_succ, List.length_cons, List.length_nil, List.map_cons, List.map_nil, List.cons_append, List.nil_append, List.append_nil, List.take_succ_cons, List.take_zero, List.take_nil, List.drop_succ_cons, List.drop_zero, List.drop_nil, Option.map_some, ↓reduceIte, Nat.reduceAdd, Nat.reduceLT, Nat.reduceLeDiff, Nat.reduceBEq, Int.reduceLT, Int.reduceAdd, Int.reduceBEq, Nat.zero_add, true_and, and_self, Bool.true_and, Bool.and_self, beq_self_eq_true, Nat.le_refl, Try.vt34, Try.vplaces34, Try.vzero34, dec_t, Try.f20]
  refine vc_pure (VCalls.wkA hv) rfl ?_
  by_cases ho : (⟨n, m, [], []⟩ : Rm).okB = true
  · rw [if_pos ho]
    simp (config := { maxSteps := 2000000 }) (implicitDefEqProofs := false) (disch := first | omega | assumption | (simp only []; done) | fail) only [vop_assign, vcallee_assign, vop_load, vcallee_load, vop_store, vcallee_store, vop_unOp, vcallee_unOp, strip_pv, strip_ptr, strip_agg, optV_none, ev_tmp, ev_const, ofConst_int, put_some, put_none, at_mk, fits_some, fits_none, ↓look_cons, ↓vlook_t, ↓vlook_f, guard_none, ↓vrun_nil, ↓code_skip, ↓code_region, ↓code_seq, ↓code_ret, ↓onNormal_normal, frz_tup, frzT_agg, frzT_pv, frz1_pv, allSome_nil, allSome_cons, frzHeap_zero, res_two, vres_tmp, vres_cell, load_ptr, vld_agg, store_ptr, vst_agg, blk_zero, blk_succ, set_zero, allOne_nil, allOne_cons, one_pv, un_not, evG_eq, ↓vrun_cons, ↓run1_some, ↓runG_true, ↓run2_none, ↓run3_some, ↓runK_eq, ↓code_cond, ↓vtest_bool, ↓vbr_false, ↓vpost_ret, vfin_some, vfin2_some, at_hp, List.map_nil, V.splice, List.length_cons, List.length_nil, List.map_cons, List.map_nil, List.nil_append, List.append_nil, List.take_succ_cons, List.take_zero, List.take_nil, List.drop_succ_cons, List.drop_zero, List.drop_nil, Option.map_some, ↓reduceIte, Nat.reduceAdd, Nat.reduceLT, Nat.reduceBEq, Int.reduceLT, Int.reduceAdd, Int.reduceBEq, Nat.zero_add, true_and, and_self, Bool.not_true, Bool.true_and, Bool.and_self, beq_self_eq_true, Nat.le_refl, RetW, DV.wk, DV.wk.go, PV.wk, Try.vt34, dec_t, DV.nums, DV.nums.go, ho]
    rfl
  · have ho' : (⟨n, m, [], []⟩ : Rm).okB = false := by simpa using ho
    rw [if_neg ho]
    simp (config := { maxSteps := 2000000 }) (implicitDefEqProofs := false) (disch := first | omega | assumption | (simp only []; done) | fail) only [vop_assign, vcallee_assign, vop_build, vcallee_build, vop_store, vcallee_store, vop_unOp, vcallee_unOp, strip_pv, strip_ptr, strip_agg, optV_none, ev_tmp, ev_const, ofConst_int, put_some, put_none, at_mk, fits_some, fits_none, ↓look_cons, ↓vlook_t, ↓vlook_f, guard_none, ↓vrun_nil, ↓code_region, ↓code_seq, ↓code_ret, ↓onNormal_normal, ↓onNormal_ret, frz_tup, frzT_agg, frzT_pv, frz1_pv, allSome_nil, allSome_cons, frzHeap_zero, res_two, vres_tmp, vres_cell, load_ptr, vld_agg, store_ptr, vst_agg, blk_zero, set_zero, allOne_nil, allOne_cons, one_pv, un_not, parts_nil, evG_eq, ↓vrun_cons, ↓run1_some, ↓runG_true, ↓run2_none, ↓run3_some, ↓runK_eq, ↓code_cond, ↓vtest_bool, ↓vbr_true, ↓vpost_ret, vfin_some, vfin2_some, at_hp, List.map_nil, vbuild, vfill, V.splice, List.length_cons, List.length_nil, List.map_cons, List.map_nil, List.nil_append, List.append_nil, List.take_succ_cons, List.take_zero, List.take_nil, List.drop_succ_cons, List.drop_zero, List.drop_nil, Option.map_some, ↓reduceIte, Nat.reduceAdd, Nat.reduceLT, Nat.reduceBEq, Int.reduceLT, Int.reduceAdd, Int.reduceBEq, Nat.zero_add, true_and, and_self, Bool.not_false, Bool.true_and, Bool.and_self, beq_self_eq_true, Nat.le_refl, RetW, DV.wk, DV.wk.go, PV.wk, Try.vt34, Try.vplaces34, Try.vzero34, dec_t, DV.nums, DV.nums.go, ho']
    rfl
theorem dint_v (c : C) : VCalls Try.prog 22 [.ptr 0 0] [cb c] (CX fun r => ∃ n : Int, r = .int .i64 n ∧ -9223372036854775808 ≤ n ∧ n ≤ 9223372036854775807) := by
  refine dd Try.func22 ?_
  simp (config := { maxSteps := 2000000 }) (implicitDefEqProofs := false) (disch := first | omega | assumption | (simp only []; done) | fail) only [vop_move, vcallee_move, vop_assign, vcallee_assign, vcallee_value, vcal_fn, strip_pv, strip_ptr, strip_fn, optV_none, ev_tmp, ev_const, ev_func, ofConst_int, put_some, at_mk, fits_some, ↓look_cons, ↓vlook_t, ↓vlook_f, guard_none, ↓vrun_nil, ↓code_region, ↓code_seq, ↓onNormal_normal, enum_nil, enum_cons, evG_eq, ↓vrun_cons, ↓run1_some, ↓runG_true, ↓run2_none, ↓run2_some, ↓run3_some, at_hp, List.map_nil, List.toList_toArray, List.length_cons, List.length_nil, List.map_cons, List.map_nil, List.nil_append, List.append_nil, Nat.reduceLT, Nat.reduceBEq, Int.reduceLT, Int.reduceNeg, Int.reduceBEq, Nat.zero_add, true_and, Bool.true_and, beq_self_eq_true, dec_t, Try.f22]
  refine vc_cx (k := 0) (c := c) (next_v c 10 (by omega) (by omega)) rfl rfl ?_
  rintro _ c1 ⟨z, rfl, hz⟩
  (try simp (config := { maxSteps := 2000000 }) (implicitDefEqProofs := false) (disch := first | omega | assumption | (simp only []; done) | fail) only [vop_assign, vcallee_assign, vop_binOp, vcallee_binOp, bin2_int, strip_pv, optV_none, ev_tmp, ev_const, ofConst_int, put_some, at_mk, fits_some, ↓look_cons, ↓vlook_t, guard_none, ↓vrun_nil, ↓code_region, ↓code_seq, ↓code_block, ↓onNormal_normal, bin_int, int_eql, evG_eq, ↓vrun_cons, ↓run1_some, ↓runG_true, ↓run2_none, ↓run3_some, ↓runK_eq, ↓code_cond, ↓vtest_bool, at_hp, List.set_cons_zero, Option.map_some, Nat.reduceLT, Int.reduceLT, Int.reduceNeg, true_and, Bool.true_and, beq_self_eq_true, dec_t])
  repeat' (first
    | (refine vrunG_split (fun hZ => ?_) (fun hZ => ?_) <;> (try rw [hZ]) <;> (try simp only [decide_eq_true_eq, decide_eq_false_iff_not, Bool.or_eq_true, Bool.and_eq_true, Bool.or_eq_false_iff, Bool.and_eq_false_imp, Bool.not_eq_true', Bool.not_eq_false', beq_iff_eq, beq_eq_false_iff_ne, bne_iff_ne, bne_eq_false_iff_eq, ne_eq, Bool.not_eq_eq_eq_not, Bool.not_true, Bool.not_false] at hZ) <;> (try (first | rw [(hZ : _ = false)] | rw [(hZ : _ = true)])) <;> skip)
    | (refine vbr_split (fun hZ => ?_) (fun hZ => ?_) <;> (try rw [hZ]) <;> (try simp only [decide_eq_true_eq, decide_eq_false_iff_not, Bool.or_eq_true, Bool.and_eq_true, Bool.or_eq_false_iff, Bool.and_eq_false_imp, Bool.not_eq_true', Bool.not_eq_false', beq_iff_eq, beq_eq_false_iff_ne, bne_iff_ne, bne_eq_false_iff_eq, ne_eq, Bool.not_eq_eq_eq_not, Bool.not_true, Bool.not_false] at hZ) <;> (try (first | rw [(hZ : _ = false)] | rw [(hZ : _ = true)])) <;> (try simp (config := { maxSteps := 2000000 }) (implicitDefEqProofs := false) (disch := first | omega | assumption | (simp only []; done) | fail) only [vop_move, vcallee_move, vop_assign, vcallee_assign, vop_buildSlice, vcallee_buildSlice, vop_binOp, vcallee_binOp, vcallee_value, vcal_fn, bin2_int, strip_pv, strip_ptr, strip_fn, optV_none, ev_tmp, ev_const, ev_func, ofConst_int, put_some, at_mk, fits_some, ↓look_cons, ↓vlook_t, ↓vlook_f, guard_none, ↓vrun_nil, ↓code_skip, ↓code_region, ↓code_seq, ↓onNormal_normal, ↓onBlock_normal, allOne_nil, allOne_cons, one_pv, bin_int, int_eql, parts_nil, parts_cons, evG_eq, ↓vrun_cons, ↓run1_some, ↓runG_true, ↓run2_none, ↓run2_some, ↓run3_some, ↓code_cond, ↓vtest_bool, at_hp, List.map_nil, dcells, vfill, vbuildSlice, V.mk, V.splice, List.length_cons, List.length_nil, List.map_cons, List.map_nil, List.cons_append, List.nil_append, List.append_nil, List.take_succ_cons, List.take_zero, List.drop_succ_cons, List.drop_zero, List.drop_nil, Option.map_some, ↓reduceIte, Nat.reduceAdd, Nat.reduceLT, Nat.reduceLeDiff, Nat.reduceBEq, Int.reduceLT, Int.reduceNeg, Int.reduceAdd, Int.reduceBEq, Nat.zero_add, Nat.mul_one, true_and, and_self, Bool.true_and, Bool.and_self, beq_self_eq_true, Nat.le_refl, Try.vzero3, Try.velem32, dec_t]))
    | (refine vdrG_split (fun hZ => ?_) (fun hZ => ?_) <;> (try rw [hZ]) <;> (try simp only [decide_eq_true_eq, decide_eq_false_iff_not, Bool.or_eq_true, Bool.and_eq_true, Bool.or_eq_false_iff, Bool.and_eq_false_imp, Bool.not_eq_true', Bool.not_eq_false', beq_iff_eq, beq_eq_false_iff_ne, bne_iff_ne, bne_eq_false_iff_eq, ne_eq, Bool.not_eq_eq_eq_not, Bool.not_true, Bool.not_false] at hZ) <;> (try (first | rw [(hZ : _ = false)] | rw [(hZ : _ = true)])) <;> skip))
  · refine vc_cx (k := 0) (c := c1) (next_v c1 3 (by omega) (by omega)) rfl rfl ?_
    rintro _ c2 ⟨y, rfl, hy⟩
    simp (config := { maxSteps := 2000000 }) (implicitDefEqProofs := false) (disch := first | omega | assumption | (simp only []; done) | fail) only [vop_assign, vcallee_assign, vop_binOp, vcallee_binOp, bin2_tmp, strip_pv, optV_none, ev_tmp, ev_const, ofConst_int, put_some, at_mk, fits_some, ↓look_cons, ↓vlook_t, guard_none, ↓vrun_nil, ↓code_ret, ↓onNormal_normal, ↓onNormal_ret, ↓onBlock_ret, frz_pv, res_one, vres_tmp, bin_int, int_sub, evG_eq, ↓vrun_cons, ↓run1_some, ↓runG_true, ↓run2_none, ↓run3_some, ↓runK_eq, ↓vpost_ret, vfin_some, at_hp, List.set_cons_zero, Option.map_some, Nat.reduceLT, Int.reduceLT, Int.reduceNeg, true_and, Bool.true_and, beq_self_eq_true, wrap_i64_in, dec_t]
    exact ⟨_, rfl, rfl, cc_nums _, rfl, ⟨_, rfl, by omega, by omega⟩, c2, rfl⟩
  · refine vc_cx (k := 0) (c := c1) (next_v c1 16 (by omega) (by omega)) rfl rfl ?_
    rintro _ c2 ⟨y, rfl, hy⟩
    have h : y = 0 ∨ y = 1 ∨ y = 2 ∨ y = 3 ∨ y = 4 ∨ y = 5 ∨ y = 6 ∨ y = 7 ∨ y = 8 ∨ y = 9 ∨ y = 10 ∨ y = 11 ∨ y = 12 ∨ y = 13 ∨ y = 14 ∨ y = 15 := by omega
    rcases h with rfl | rfl | rfl | rfl | rfl | rfl | rfl | rfl | rfl | rfl | rfl | rfl | rfl | rfl | rfl | rfl <;> (simp (config := { maxSteps := 2000000 }) (implicitDefEqProofs := false) (disch := first | omega | assumption | (simp only []; done) | fail) only [vop_assign, vcallee_assign, vop_load, vcallee_load, vop_indexAddr, vcallee_indexAddr, strip_pv, strip_ptr, strip_own, optV_none, ev_tmp, put_some, at_mk, fits_some, ↓look_cons, ↓vlook_t, ↓vlook_f, guard_none, ↓vrun_nil, ↓code_ret, ↓onNormal_normal, ↓onNormal_ret, ↓onBlock_ret, frz_pv, res_one, vres_tmp, load_ptr, vld_one, blk_zero, blk_succ, iaddr_own, viao_some, evG_eq, ↓vrun_cons, ↓run1_some, ↓runG_true, ↓run2_none, ↓run3_some, ↓runK_eq, ↓vpost_ret, vfin_some, at_hp, List.getElem?_cons_zero, List.getElem?_cons_succ, List.set_cons_zero, Option.map_some, Nat.reduceLT, Nat.reduceBEq, Int.reduceLT, Int.reduceNeg, Int.reduceBEq, Int.toNat_natCast, Nat.zero_add, Nat.add_zero, Nat.mul_one, true_and, Bool.true_and, beq_self_eq_true, Try.vt3, Try.velem32, dec_t]; exact ⟨_, rfl, rfl, cc_nums _, rfl, ⟨_, rfl, by omega, by omega⟩, c2, rfl⟩)
  · refine vc_cx (k := 0) (c := c1) (next_v c1 20 (by omega) (by omega)) rfl rfl ?_
    rintro _ c2 ⟨y, rfl, hy⟩
    simp (config := { maxSteps := 2000000 }) (implicitDefEqProofs := false) (disch := first | omega | assumption | (simp only []; done) | fail) only [vop_assign, vcallee_assign, strip_pv, optV_none, ev_tmp, put_some, at_mk, fits_some, ↓look_cons, ↓vlook_t, guard_none, ↓vrun_nil, ↓code_ret, ↓onNormal_normal, frz_pv, res_one, vres_tmp, evG_eq, ↓vrun_cons, ↓run1_some, ↓runG_true, ↓run2_none, ↓run3_some, ↓runK_eq, ↓vpost_ret, vfin_some, at_hp, List.set_cons_zero, Nat.reduceLT, Int.reduceLT, Int.reduceNeg, true_and, Bool.true_and, beq_self_eq_true, dec_t]
    exact ⟨_, rfl, rfl, cc_nums _, rfl, ⟨_, rfl, by omega, by omega⟩, c2, rfl⟩
def Rm.s1 (r : Rm) : Prop := r.places.length ≤ 100 ∧ r.bad.length ≤ 100
theorem Rm.s1.sm {r : Rm} (h : r.s1) : r.sm := ⟨by have := h.1; omega, by have := h.2; omega⟩
theorem ok64 (r : Rm) (h : r.Ok) : r.places.length ≤ 64 ∧ r.bad.length ≤ 64 := by
  have hl : r.bad.length ≤ ((List.range 64).map fun i : Nat => (i : Int)).length := nodup_sub_len _ _ (asc_nd _ h.basc) fun x hx => by
    have := h.brng x hx
    have := h.s3
    exact List.mem_map.2 ⟨x.toNat, by rw [List.mem_range]; omega, by omega⟩
  have hp : (r.places.map (·.pg)).length ≤ ((List.range 64).map fun i : Nat => (i : Int)).length := nodup_sub_len _ _ (asc_nd _ h.pasc) fun x hx => by
    obtain ⟨p, hp, rfl⟩ := List.mem_map.1 hx
    have := h.prng p hp
    have := h.p2
    exact List.mem_map.2 ⟨p.pg.toNat, by rw [List.mem_range]; omega, by omega⟩
  simp only [List.length_map, List.length_range] at hl hp
  exact ⟨by omega, by omega⟩
structure RD where
  k : Nat
  c : C
  r : Rm
  ok : r.Ok
  hk : k ≤ 6
theorem rdraw_v (c : C) : VCalls Try.prog 8 [.ptr 0 0] [cb c] (CX fun d => ∃ r : Rm, d = .agg r.d ∧ r.s1) := by
  refine dd Try.func8 ?_
  simp (config := { maxSteps := 2000000 }) (implicitDefEqProofs := false) (disch := first | omega | assumption | (simp only []; done) | fail) only [vop_move, vcallee_move, vop_alloc, vcallee_alloc, vcallee_value, vcal_fn, strip_pv, strip_ptr, strip_fn, optV_none, ev_tmp, ev_const, ev_func, ofConst_int, put_some, at_mk, fits_some, ↓look_cons, ↓vlook_t, ↓vlook_f, guard_none, ↓vrun_nil, ↓code_region, ↓code_seq, ↓onNormal_normal, alloc_eq, val1_some, allOne_nil, allOne_cons, one_pv, enum_nil, enum_cons, evG_eq, ↓vrun_cons, ↓run1_some, ↓runG_true, ↓run2_none, ↓run2_some, ↓run3_some, at_hp, List.map_nil, List.toList_toArray, List.length_cons, List.length_nil, List.map_cons, List.map_nil, List.cons_append, List.nil_append, List.append_nil, ↓reduceIte, Nat.reduceLT, Nat.reduceBEq, Int.reduceLT, Int.reduceBEq, Nat.zero_add, true_and, and_self, Bool.true_and, Bool.and_self, beq_self_eq_true, Try.vzero34, dec_t, Try.f8]
  refine vc_cx (k := 0) (c := c) (next_v c 6 (by omega) (by omega)) rfl rfl ?_
  rintro _ c1 ⟨n, rfl, hn⟩
  simp (config := { maxSteps := 2000000 }) (implicitDefEqProofs := false) (disch := first | omega | assumption | (simp only []; done) | fail) only [vop_move, vcallee_move, vop_binOp, vcallee_binOp, vcallee_value, vcal_fn, bin2_tmp, strip_pv, strip_ptr, strip_fn, optV_none, ev_tmp, ev_const, ev_func, ofConst_int, put_some, at_mk, fits_some, ↓look_cons, ↓vlook_t, ↓vlook_f, guard_none, bin_int, int_add, evG_eq, ↓vrun_cons, ↓run1_some, ↓runG_true, ↓run2_none, ↓run2_some, ↓run3_some, ↓runK_eq, at_hp, List.map_nil, List.map_cons, List.map_nil, List.nil_append, List.append_nil, List.set_cons_zero, Option.map_some, Nat.reduceLT, Nat.reduceBEq, Int.reduceLT, Int.reduceBEq, true_and, Bool.true_and, beq_self_eq_true, wrap_i64_in, dec_t]
  refine vc_cx (k := 0) (c := c1) (next_v c1 5 (by omega) (by omega)) rfl rfl ?_
  rintro _ c2 ⟨m, rfl, hm⟩
  have h1 := rnew_v (1 + (n : Int)) m
  have ok0 : (⟨1 + (n : Int), m, [], []⟩ : Rm).Ok := by
    refine ⟨by show (1 : Int) ≤ 1 + n; omega, by show 1 + (n : Int) ≤ 64; omega, by show (0 : Int) ≤ m; omega, by show (m : Int) ≤ 16; omega, by show 1 + (n : Int) + m ≤ 64; omega, List.Pairwise.nil, by simp, List.Pairwise.nil, by simp, by simp, rfl⟩
  rw [if_pos ((ok_iff _).2 ok0)] at h1
  simp (config := { maxSteps := 2000000 }) (implicitDefEqProofs := false) (disch := first | omega | assumption | (simp only []; done) | fail) only [vcallee_value, vcal_fn, strip_pv, strip_fn, optV_none, ev_tmp, ev_func, put_some, at_mk, fits_some, ↓look_cons, ↓vlook_t, ↓vlook_f, guard_none, evG_eq, ↓vrun_cons, ↓run1_some, ↓runG_true, ↓run2_some, ↓runK_eq, at_hp, List.map_nil, List.map_cons, List.map_nil, List.nil_append, List.append_nil, List.set_cons_zero, Nat.reduceLT, Nat.reduceBEq, Int.reduceLT, Int.reduceBEq, true_and, Bool.true_and, beq_self_eq_true, dec_t]
  refine vc_pure h1 rfl ?_
  simp (config := { maxSteps := 2000000 }) (implicitDefEqProofs := false) (disch := first | omega | assumption | (simp only []; done) | fail) only [vop_move, vcallee_move, vop_assign, vcallee_assign, vop_alloc, vcallee_alloc, vop_store, vcallee_store, vop_extract, vcallee_extract, vcallee_value, vcal_fn, strip_pv, strip_ptr, strip_agg, strip_tup, strip_fn, optV_none, ev_tmp, ev_const, ev_func, ofConst_int, put_some, put_none, at_mk, fits_some, fits_none, ↓look_cons, ↓vlook_t, ↓vlook_f, guard_none, ↓vrun_nil, ↓code_region, ↓code_seq, ↓onNormal_normal, store_ptr, vst_agg, blk_zero, blk_succ, set_zero, set_succ, alloc_eq, val1_some, allOne_nil, allOne_cons, one_pv, ext_tup, evG_eq, ↓vrun_cons, ↓run1_some, ↓runG_true, ↓run2_none, ↓run2_some, ↓run3_some, ↓runK_eq, at_hp, List.map_nil, V.splice, List.getElem?_cons_zero, List.getElem?_cons_succ, List.length_cons, List.length_nil, List.map_cons, List.map_nil, List.cons_append, List.nil_append, List.append_nil, List.take_zero, List.drop_succ_cons, List.drop_nil, Option.map_some, ↓reduceIte, Nat.reduceAdd, Nat.reduceLT, Nat.reduceBEq, Int.reduceLT, Int.reduceAdd, Int.reduceBEq, Nat.zero_add, true_and, and_self, Bool.true_and, Bool.and_self, beq_self_eq_true, Nat.le_refl, Try.vt34, Try.vzero34, dec_t, Rm.d]
  refine vc_cx (k := 0) (c := c2) (next_v c2 6 (by omega) (by omega)) rfl rfl ?_
  rintro _ c3 ⟨k0, rfl, hk0⟩
  simp (config := { maxSteps := 2000000 }) (implicitDefEqProofs := false) (disch := first | omega | assumption | (simp only []; done) | fail) only [vop_assign, vcallee_assign, strip_pv, optV_none, ev_tmp, put_some, at_mk, fits_some, ↓look_cons, ↓vlook_t, guard_none, ↓vrun_nil, ↓code_block, ↓code_loop, ↓onNormal_normal, evG_eq, ↓vrun_cons, ↓run1_some, ↓runG_true, ↓run2_none, ↓run3_some, ↓runK_eq, at_hp, List.set_cons_zero, Nat.reduceLT, Int.reduceLT, true_and, Bool.true_and, beq_self_eq_true, dec_t]
  refine VLoop.wkS ?_
  simp (config := { maxSteps := 2000000 }) (implicitDefEqProofs := false) (disch := first | omega | assumption) only [List.map_nil, List.map_cons, List.map_nil, DV.wk, DV.wk.go, PV.wk, DV.nums.go, tmwk, hpwk, Blk.wk, cb, cc]
  refine vloopW (fun s : RD => ⟨76, 1, [(5, .int .i64 s.k), (3, .ptr 2 0), (2, .ptr 1 0), (0, .ptr 0 0)], [cb s.c, ⟨34, true, [.int .i64 0, .int .i64 0, .pv (.sl []), .pv (.sl [])]⟩, ⟨34, true, [.int .i64 s.r.pages, .int .i64 s.r.spares, .pv (.sl (fz encP s.r.places)), .pv (.sl (fz encI s.r.bad))]⟩]⟩) (fun s => s.k) ⟨k0, c3, _, ok0, by omega⟩ (by exact (by refine gc_of (keep := [0, 1, 2]) rfl rfl rfl (by decide) ?_ ?_ <;> (repeat' apply And.intro) <;> first | trivial | rfl | exact ⟨_, rfl, rfl, rfl, .inl ⟨rfl, rfl⟩⟩ | exact ⟨_, rfl, rfl, rfl, .inl ⟨cells_nums _ _ _, rfl⟩⟩ | exact ⟨_, rfl, rfl, rfl, .inl ⟨pvs_nums _ _, rfl⟩⟩ | exact ⟨_, rfl, rfl, rfl, .inr ⟨rfl, rfl⟩⟩)) ?_
  rintro ⟨k, c4, r, hok, hk6⟩
  dsimp only
  have hs := ok_sm r hok
  have hss := ok64 r hok
  have p1 := hok.p1
  have p2 := hok.p2
  have q1 := hok.s1
  have q2 := hok.s2
  have hmk := fun x => rmark_v r hs x
  have hlw := mark_law r hok
  obtain ⟨pages, spares, places, bad⟩ := r
  obtain ⟨hs1, hs2⟩ := hs
  dsimp only [Rm.d] at *
  (try simp (config := { maxSteps := 2000000 }) (implicitDefEqProofs := false) (disch := first | omega | assumption | (simp only []; done) | fail) only [vop_move, vcallee_move, vop_binOp, vcallee_binOp, bin2_int, strip_pv, optV_none, ev_tmp, ev_const, ofConst_int, put_some, at_mk, fits_some, ↓look_cons, ↓vlook_t, guard_none, ↓vrun_nil, ↓code_region, ↓code_seq, ↓onNormal_normal, bin_int, int_gtr, evG_eq, ↓vrun_cons, ↓run1_some, ↓runG_true, ↓run2_none, ↓run3_some, ↓code_cond, ↓vtest_bool, at_hp, Option.map_some, Nat.reduceLT, Int.reduceLT, true_and, Bool.true_and, beq_self_eq_true, dec_t, cb, cc])
  repeat' (first
    | (refine vrunG_split (fun hZ => ?_) (fun hZ => ?_) <;> (try rw [hZ]) <;> (try simp only [decide_eq_true_eq, decide_eq_false_iff_not, Bool.or_eq_true, Bool.and_eq_true, Bool.or_eq_false_iff, Bool.and_eq_false_imp, Bool.not_eq_true', Bool.not_eq_false', beq_iff_eq, beq_eq_false_iff_ne, bne_iff_ne, bne_eq_false_iff_eq, ne_eq, Bool.not_eq_eq_eq_not, Bool.not_true, Bool.not_false] at hZ) <;> (try (first | rw [(hZ : _ = false)] | rw [(hZ : _ = true)])) <;> skip)
    | (refine vbr_split (fun hZ => ?_) (fun hZ => ?_) <;> (try rw [hZ]) <;> (try simp only [decide_eq_true_eq, decide_eq_false_iff_not, Bool.or_eq_true, Bool.and_eq_true, Bool.or_eq_false_iff, Bool.and_eq_false_imp, Bool.not_eq_true', Bool.not_eq_false', beq_iff_eq, beq_eq_false_iff_ne, bne_iff_ne, bne_eq_false_iff_eq, ne_eq, Bool.not_eq_eq_eq_not, Bool.not_true, Bool.not_false] at hZ) <;> (try (first | rw [(hZ : _ = false)] | rw [(hZ : _ = true)])) <;> (try simp (config := { maxSteps := 2000000 }) (implicitDefEqProofs := false) (disch := first | omega | assumption | (simp only []; done) | fail) only [vop_move, vcallee_move, vcallee_value, vcal_fn, strip_pv, strip_ptr, strip_fn, optV_none, ev_tmp, ev_const, ev_func, ofConst_int, put_some, at_mk, fits_some, ↓look_cons, ↓vlook_t, ↓vlook_f, guard_none, ↓code_skip, ↓code_region, ↓code_draw, ↓code_seq, ↓code_block, ↓code_exit, ↓onNormal_normal, ↓onNormal_exit, ↓onBlock_exit, evG_eq, ↓vrun_cons, ↓run1_some, ↓runG_true, ↓run2_none, ↓run2_some, ↓run3_some, at_hp, List.map_nil, List.map_cons, List.map_nil, List.nil_append, List.append_nil, ↓reduceIte, Nat.reduceLT, Nat.reduceBEq, Int.reduceLT, Int.reduceBEq, true_and, Bool.true_and, beq_self_eq_true, dec_t]))
    | (refine vdrG_split (fun hZ => ?_) (fun hZ => ?_) <;> (try rw [hZ]) <;> (try simp only [decide_eq_true_eq, decide_eq_false_iff_not, Bool.or_eq_true, Bool.and_eq_true, Bool.or_eq_false_iff, Bool.and_eq_false_imp, Bool.not_eq_true', Bool.not_eq_false', beq_iff_eq, beq_eq_false_iff_ne, bne_iff_ne, bne_eq_false_iff_eq, ne_eq, Bool.not_eq_eq_eq_not, Bool.not_true, Bool.not_false] at hZ) <;> (try (first | rw [(hZ : _ = false)] | rw [(hZ : _ = true)])) <;> skip)
    | (refine vspine (id := 5) [0, 1, 2, 3, 4, 5, 6] [⟨[13], [], 7, [0, 2, 3, 4, 5], []⟩, ⟨[13], [], 8, [1, 2, 3, 4, 5, 6], [9, 10, 11, 12]⟩, ⟨[13], [13], 14, [11, 12], []⟩, ⟨[], [], 15, [12], []⟩, ⟨[], [], 16, [], []⟩] (by kernel_rfl) (by kernel_rfl) ?_; (try simp (config := { maxSteps := 2000000 }) (implicitDefEqProofs := false) (disch := first | omega | assumption | (simp only []; done) | fail) only [vop_move, vcallee_move, vop_alloc, vop_load, vcallee_load, vop_binOp, vcallee_binOp, vop_fieldAddr, vcallee_fieldAddr, vcallee_value, vcal_fn, bin2_tmp, strip_pv, strip_ptr, strip_fn, optV_none, ev_tmp, ev_func, put_some, at_mk, fits_some, ↓look_cons, ↓vlook_t, ↓vlook_f, guard_none, ↓vrun_nil, load_ptr, vld_one, vld_agg, blk_zero, blk_succ, alloc_eq, val1_some, allOne_nil, allOne_cons, one_pv, faddr_ptr, vfap_some, bin_int, int_add, evG_eq, ↓vrun_cons, ↓run1_some, ↓runG_true, ↓run2_none, ↓run2_some, ↓run3_some, at_hp, List.map_nil, List.toList_toArray, List.getElem?_cons_zero, List.getElem?_cons_succ, List.length_cons, List.length_nil, List.map_cons, List.map_nil, List.nil_append, List.append_nil, List.take_succ_cons, List.take_nil, List.drop_zero, Option.map_some, ↓reduceIte, reduceCtorEq, Nat.reduceAdd, Nat.reduceLT, Nat.reduceBEq, Int.reduceLT, Int.reduceAdd, Int.reduceBEq, Nat.zero_add, Nat.add_zero, true_and, and_self, Bool.true_and, Bool.and_self, beq_self_eq_true, Nat.le_refl, ↓vsp_cons, vspC_true, vspR_eq, pick_nil, pick_cons, pickO_some, creas_nil, creas_cons, creaOk_eq, creaM_ptr, creaOk2_some, Op.operands, DV.wk.go, Try.vt3, Try.vt34, Try.vfield34x0, Try.vfield34x1, Try.vzero34, wrap_i64_in, dec_t, DV.nums, DV.nums.go])))
  · refine vc_cx (k := 0) (c := c4) (next_i c4 (pages + spares) (by omega) (by omega)) rfl rfl ?_
    rintro _ c5 ⟨x, rfl, hx⟩
    have hm := hmk x
    rcases hlw x (by omega) (by omega) with ⟨e1, -, -⟩ | ⟨r', e1, ok', -, -, -, -, -⟩
    · rw [e1] at hm
      unfold remD Rm0 Rm.d at hm
      dsimp only at hm
      (try simp (config := { maxSteps := 2000000 }) (implicitDefEqProofs := false) (disch := first | omega | assumption | (simp only []; done) | fail) only [vop_alloc, foot_fieldAddr, foot_load, vcallee_value, vcal_fn, ptrNo_ptr, strip_pv, strip_ptr, strip_agg, strip_fn, optV_none, ev_tmp, ev_func, put_some, at_mk, fits_some, ↓look_cons, ↓vlook_t, ↓vlook_f, guard_none, ↓vrun_nil, alloc_eq, val1_some, allOne_nil, allOne_cons, one_pv, evG_eq, ↓vrun_cons, ↓run1_some, ↓runG_true, ↓run2_some, ↓runK_eq, at_hp, List.map_nil, List.toList_toArray, List.getElem?_cons_zero, List.getElem?_cons_succ, List.length_cons, List.length_nil, List.map_cons, List.map_nil, List.nil_append, List.append_nil, List.set_cons_zero, ↓reduceIte, Nat.reduceAdd, Nat.reduceLT, Nat.reduceBEq, Int.reduceLT, Int.reduceAdd, Int.reduceBEq, Nat.zero_add, true_and, and_self, Bool.true_and, Bool.and_self, beq_self_eq_true, ↓vsp_cons, ↓vspK_eq, vspC_true, vspR_eq, pick_nil, pick_cons, pickO_some, creas_nil, creas_cons, creaOk_eq, creaM_ptr, creaOk2_some, agree_nil, agree_cons, agree1_some, sameAt_nil, sameAt_cons, Op.operands, DV.wk.go, Try.vzero34, dec_t, DV.nums, DV.nums.go, cb, cc])
      repeat' (first
        | (refine vrunG_split (fun hZ => ?_) (fun hZ => ?_) <;> (try rw [hZ]) <;> (try simp only [decide_eq_true_eq, decide_eq_false_iff_not, Bool.or_eq_true, Bool.and_eq_true, Bool.or_eq_false_iff, Bool.and_eq_false_imp, Bool.not_eq_true', Bool.not_eq_false', beq_iff_eq, beq_eq_false_iff_ne, bne_iff_ne, bne_eq_false_iff_eq, ne_eq, Bool.not_eq_eq_eq_not, Bool.not_true, Bool.not_false] at hZ) <;> (try (first | rw [(hZ : _ = false)] | rw [(hZ : _ = true)])) <;> skip)
        | (refine vbr_split (fun hZ => ?_) (fun hZ => ?_) <;> (try rw [hZ]) <;> (try simp only [decide_eq_true_eq, decide_eq_false_iff_not, Bool.or_eq_true, Bool.and_eq_true, Bool.or_eq_false_iff, Bool.and_eq_false_imp, Bool.not_eq_true', Bool.not_eq_false', beq_iff_eq, beq_eq_false_iff_ne, bne_iff_ne, bne_eq_false_iff_eq, ne_eq, Bool.not_eq_eq_eq_not, Bool.not_true, Bool.not_false] at hZ) <;> (try (first | rw [(hZ : _ = false)] | rw [(hZ : _ = true)])) <;> skip)
        | (refine vdrG_split (fun hZ => ?_) (fun hZ => ?_) <;> (try rw [hZ]) <;> (try simp only [decide_eq_true_eq, decide_eq_false_iff_not, Bool.or_eq_true, Bool.and_eq_true, Bool.or_eq_false_iff, Bool.and_eq_false_imp, Bool.not_eq_true', Bool.not_eq_false', beq_iff_eq, beq_eq_false_iff_ne, bne_iff_ne, bne_eq_false_iff_eq, ne_eq, Bool.not_eq_eq_eq_not, Bool.not_true, Bool.not_false] at hZ) <;> (try (first | rw [(hZ : _ = false)] | rw [(hZ : _ = true)])) <;> skip)
        | (refine vc_pure (hm) rfl ?_; (try simp (config := { maxSteps := 2000000 }) (implicitDefEqProofs := false) (disch := first | omega | assumption | (simp only []; done) | fail) only [vop_move, vcallee_move, foot_move, vop_assign, vcallee_assign, vop_alloc, vcallee_alloc, vop_store, vcallee_store, vop_binOp, vcallee_binOp, foot_binOp, foot_fieldAddr, vop_extract, vcallee_extract, foot_extract, foot_load, ptrNo_ptr, bin2_int, strip_pv, strip_ptr, strip_agg, strip_tup, optV_none, ev_tmp, ev_const, ofConst_int, put_some, put_none, at_mk, fits_some, fits_none, ↓look_cons, ↓vlook_t, ↓vlook_f, guard_none, ↓vrun_nil, ↓code_skip, ↓code_region, ↓code_seq, ↓onNormal_normal, ↓onBlock_normal, store_ptr, vst_agg, blk_zero, blk_succ, set_zero, set_succ, alloc_eq, val1_some, allOne_nil, allOne_cons, one_pv, bin_int, int_sub, int_eql, ext_tup, evG_eq, ↓vrun_cons, ↓run1_some, ↓runG_true, ↓run2_none, ↓run3_some, ↓runK_eq, ↓code_cond, ↓vtest_bool, ↓vbr_false, at_hp, List.map_nil, V.splice, List.toList_toArray, List.getElem?_cons_zero, List.getElem?_cons_succ, List.length_cons, List.length_nil, List.map_nil, List.cons_append, List.nil_append, List.append_nil, List.take_zero, List.drop_succ_cons, List.drop_nil, Option.map_some, ↓reduceIte, Nat.reduceAdd, Nat.reduceLT, Nat.reduceBEq, Int.reduceLT, Int.reduceAdd, Int.reduceBEq, Nat.zero_add, true_and, and_self, Bool.true_and, Bool.and_self, beq_self_eq_true, Nat.le_refl, ↓vsp_nil, ↓vsp_cons, ↓vspK_eq, vspC_true, vspR_eq, pick_nil, pick_cons, pickO_some, creas_nil, creas_cons, creaOk_eq, creaM_ptr, creaOk2_some, agree_nil, agree_cons, agree1_some, sameAt_nil, sameAt_cons, Op.operands, DV.wk.go, Try.vt34, Try.vzero34, wrap_i64_in, dec_t, int_beq_f, DV.nums, DV.nums.go])))
      refine ⟨⟨k - 1, c5, ⟨pages, spares, places, bad⟩, hok, by omega⟩, by show k - 1 < k; omega, ?_⟩
      dsimp only
      rw [show ((k - 1 : Nat) : Int) = (k : Int) - 1 by omega]
      exact (by refine gc_of (keep := [0, 1, 2]) rfl rfl rfl (by decide) ?_ ?_ <;> (repeat' apply And.intro) <;> first | trivial | rfl | exact ⟨_, rfl, rfl, rfl, .inl ⟨rfl, rfl⟩⟩ | exact ⟨_, rfl, rfl, rfl, .inl ⟨cells_nums _ _ _, rfl⟩⟩ | exact ⟨_, rfl, rfl, rfl, .inl ⟨pvs_nums _ _, rfl⟩⟩ | exact ⟨_, rfl, rfl, rfl, .inr ⟨rfl, rfl⟩⟩)
    · rw [e1] at hm
      unfold remD at hm
      dsimp only [Rm.d] at hm
      (try simp (config := { maxSteps := 2000000 }) (implicitDefEqProofs := false) (disch := first | omega | assumption | (simp only []; done) | fail) only [vop_alloc, foot_fieldAddr, foot_load, vcallee_value, vcal_fn, ptrNo_ptr, strip_pv, strip_ptr, strip_agg, strip_fn, optV_none, ev_tmp, ev_func, put_some, at_mk, fits_some, ↓look_cons, ↓vlook_t, ↓vlook_f, guard_none, ↓vrun_nil, alloc_eq, val1_some, allOne_nil, allOne_cons, one_pv, evG_eq, ↓vrun_cons, ↓run1_some, ↓runG_true, ↓run2_some, ↓runK_eq, at_hp, List.map_nil, List.toList_toArray, List.getElem?_cons_zero, List.getElem?_cons_succ, List.length_cons, List.length_nil, List.map_cons, List.map_nil, List.nil_append, List.append_nil, List.set_cons_zero, ↓reduceIte, Nat.reduceAdd, Nat.reduceLT, Nat.reduceBEq, Int.reduceLT, Int.reduceAdd, Int.reduceBEq, Nat.zero_add, true_and, and_self, Bool.true_and, Bool.and_self, beq_self_eq_true, ↓vsp_cons, ↓vspK_eq, vspC_true, vspR_eq, pick_nil, pick_cons, pickO_some, creas_nil, creas_cons, creaOk_eq, creaM_ptr, creaOk2_some, agree_nil, agree_cons, agree1_some, sameAt_nil, sameAt_cons, Op.operands, DV.wk.go, Try.vzero34, dec_t, DV.nums, DV.nums.go, cb, cc])
      repeat' (first
        | (refine vrunG_split (fun hZ => ?_) (fun hZ => ?_) <;> (try rw [hZ]) <;> (try simp only [decide_eq_true_eq, decide_eq_false_iff_not, Bool.or_eq_true, Bool.and_eq_true, Bool.or_eq_false_iff, Bool.and_eq_false_imp, Bool.not_eq_true', Bool.not_eq_false', beq_iff_eq, beq_eq_false_iff_ne, bne_iff_ne, bne_eq_false_iff_eq, ne_eq, Bool.not_eq_eq_eq_not, Bool.not_true, Bool.not_false] at hZ) <;> (try (first | rw [(hZ : _ = false)] | rw [(hZ : _ = true)])) <;> skip)
        | (refine vbr_split (fun hZ => ?_) (fun hZ => ?_) <;> (try rw [hZ]) <;> (try simp only [decide_eq_true_eq, decide_eq_false_iff_not, Bool.or_eq_true, Bool.and_eq_true, Bool.or_eq_false_iff, Bool.and_eq_false_imp, Bool.not_eq_true', Bool.not_eq_false', beq_iff_eq, beq_eq_false_iff_ne, bne_iff_ne, bne_eq_false_iff_eq, ne_eq, Bool.not_eq_eq_eq_not, Bool.not_true, Bool.not_false] at hZ) <;> (try (first | rw [(hZ : _ = false)] | rw [(hZ : _ = true)])) <;> skip)
        | (refine vdrG_split (fun hZ => ?_) (fun hZ => ?_) <;> (try rw [hZ]) <;> (try simp only [decide_eq_true_eq, decide_eq_false_iff_not, Bool.or_eq_true, Bool.and_eq_true, Bool.or_eq_false_iff, Bool.and_eq_false_imp, Bool.not_eq_true', Bool.not_eq_false', beq_iff_eq, beq_eq_false_iff_ne, bne_iff_ne, bne_eq_false_iff_eq, ne_eq, Bool.not_eq_eq_eq_not, Bool.not_true, Bool.not_false] at hZ) <;> (try (first | rw [(hZ : _ = false)] | rw [(hZ : _ = true)])) <;> skip)
        | (refine vc_pure (hm) rfl ?_; (try simp (config := { maxSteps := 2000000 }) (implicitDefEqProofs := false) (disch := first | omega | assumption | (simp only []; done) | fail) only [vop_move, vcallee_move, foot_move, vop_assign, vcallee_assign, vop_alloc, vcallee_alloc, vop_load, vcallee_load, vop_store, vcallee_store, vop_binOp, vcallee_binOp, foot_binOp, foot_fieldAddr, vop_extract, vcallee_extract, foot_extract, foot_load, ptrNo_ptr, bin2_int, strip_pv, strip_ptr, strip_agg, strip_tup, optV_none, ev_tmp, ev_const, ofConst_int, put_some, put_none, at_mk, fits_some, fits_none, ↓look_cons, ↓vlook_t, ↓vlook_f, guard_none, ↓vrun_nil, ↓code_region, ↓code_seq, ↓onNormal_normal, ↓onBlock_normal, load_ptr, vld_agg, store_ptr, vst_agg, blk_zero, blk_succ, set_zero, set_succ, alloc_eq, val1_some, allOne_nil, allOne_cons, one_pv, bin_int, int_sub, int_eql, ext_tup, evG_eq, ↓vrun_cons, ↓run1_some, ↓runG_true, ↓run2_none, ↓run3_some, ↓runK_eq, ↓code_cond, ↓vtest_bool, ↓vbr_true, at_hp, List.map_nil, V.splice, List.toList_toArray, List.getElem?_cons_zero, List.getElem?_cons_succ, List.length_cons, List.length_nil, List.map_nil, List.cons_append, List.nil_append, List.append_nil, List.take_succ_cons, List.take_zero, List.take_nil, List.drop_succ_cons, List.drop_zero, List.drop_nil, Option.map_some, ↓reduceIte, Nat.reduceAdd, Nat.reduceLT, Nat.reduceBEq, Int.reduceLT, Int.reduceNeg, Int.reduceAdd, Int.reduceBEq, Nat.zero_add, true_and, and_self, Bool.true_and, Bool.and_self, beq_self_eq_true, Nat.le_refl, ↓vsp_nil, ↓vsp_cons, ↓vspK_eq, vspC_true, vspR_eq, pick_nil, pick_cons, pickO_some, creas_nil, creas_cons, creaOk_eq, creaM_ptr, creaOk2_some, agree_nil, agree_cons, agree1_some, sameAt_nil, sameAt_cons, Op.operands, DV.wk.go, Try.vt34, Try.vzero34, wrap_i64_in, dec_t, DV.nums, DV.nums.go])))
      refine ⟨⟨k - 1, c5, r', ok', by omega⟩, by show k - 1 < k; omega, ?_⟩
      dsimp only
      rw [show ((k - 1 : Nat) : Int) = (k : Int) - 1 by omega]
      exact (by refine gc_of (keep := [0, 1, 2]) rfl rfl rfl (by decide) ?_ ?_ <;> (repeat' apply And.intro) <;> first | trivial | rfl | exact ⟨_, rfl, rfl, rfl, .inl ⟨rfl, rfl⟩⟩ | exact ⟨_, rfl, rfl, rfl, .inl ⟨cells_nums _ _ _, rfl⟩⟩ | exact ⟨_, rfl, rfl, rfl, .inl ⟨pvs_nums _ _, rfl⟩⟩ | exact ⟨_, rfl, rfl, rfl, .inr ⟨rfl, rfl⟩⟩)
  · clear hmk hlw
    refine vc_cx (k := 0) (c := c4) (next_v c4 10 (by omega) (by omega)) rfl rfl ?_
    rintro _ c5 ⟨x, rfl, hx⟩
    (try simp (config := { maxSteps := 2000000 }) (implicitDefEqProofs := false) (disch := first | omega | assumption | (simp only []; done) | fail) only [vop_assign, vcallee_assign, vop_binOp, vcallee_binOp, bin2_int, strip_pv, optV_none, ev_tmp, ev_const, ofConst_int, put_some, at_mk, fits_some, ↓look_cons, ↓vlook_t, guard_none, ↓vrun_nil, ↓code_region, ↓code_seq, ↓code_block, ↓onNormal_normal, bin_int, int_eql, evG_eq, ↓vrun_cons, ↓run1_some, ↓runG_true, ↓run2_none, ↓run3_some, ↓runK_eq, ↓code_cond, ↓vtest_bool, at_hp, List.set_cons_zero, Option.map_some, Nat.reduceLT, Int.reduceLT, true_and, Bool.true_and, beq_self_eq_true, dec_t, cb, cc])
    repeat' (first
      | (refine vrunG_split (fun hZ => ?_) (fun hZ => ?_) <;> (try rw [hZ]) <;> (try simp only [decide_eq_true_eq, decide_eq_false_iff_not, Bool.or_eq_true, Bool.and_eq_true, Bool.or_eq_false_iff, Bool.and_eq_false_imp, Bool.not_eq_true', Bool.not_eq_false', beq_iff_eq, beq_eq_false_iff_ne, bne_iff_ne, bne_eq_false_iff_eq, ne_eq, Bool.not_eq_eq_eq_not, Bool.not_true, Bool.not_false] at hZ) <;> (try (first | rw [(hZ : _ = false)] | rw [(hZ : _ = true)])) <;> skip)
      | (refine vbr_split (fun hZ => ?_) (fun hZ => ?_) <;> (try rw [hZ]) <;> (try simp only [decide_eq_true_eq, decide_eq_false_iff_not, Bool.or_eq_true, Bool.and_eq_true, Bool.or_eq_false_iff, Bool.and_eq_false_imp, Bool.not_eq_true', Bool.not_eq_false', beq_iff_eq, beq_eq_false_iff_ne, bne_iff_ne, bne_eq_false_iff_eq, ne_eq, Bool.not_eq_eq_eq_not, Bool.not_true, Bool.not_false] at hZ) <;> (try (first | rw [(hZ : _ = false)] | rw [(hZ : _ = true)])) <;> (try simp (config := { maxSteps := 2000000 }) (implicitDefEqProofs := false) (disch := first | omega | assumption | (simp only []; done) | fail) only [vop_move, vcallee_move, vop_assign, vcallee_assign, vop_load, vcallee_load, vop_store, vcallee_store, vop_binOp, vcallee_binOp, vop_fieldAddr, vcallee_fieldAddr, vop_builtin, vcallee_builtin, vcallee_value, vcal_fn, bin2_int, strip_pv, strip_ptr, strip_agg, strip_fn, optV_none, ev_tmp, ev_const, ev_func, ofConst_int, ofConst_slice, put_some, put_none, at_mk, fits_some, fits_none, ↓look_cons, ↓vlook_t, ↓vlook_f, guard_none, ↓vrun_nil, ↓code_skip, ↓code_region, ↓code_seq, ↓code_ret, ↓onNormal_normal, ↓onBlock_normal, frz_agg, frz1_pv, allSome_nil, allSome_cons, res_one, vres_cell, load_ptr, vld_one, vld_agg, store_ptr, vst_agg, blk_zero, blk_succ, set_zero, set_succ, allOne_nil, allOne_cons, one_pv, faddr_ptr, vfap_some, bin_int, int_eql, bi_append, ap2_slc, evG_eq, ↓vrun_cons, ↓run1_some, ↓runG_true, ↓run2_none, ↓run2_some, ↓run3_some, ↓code_cond, ↓vtest_bool, ↓vpost_ret, vfin_some, vfin2_some, at_hp, frzHeap_one, frzH1_some, pvs, List.flatten_nil, List.map_nil, slOf, vsrc, vbase, vappend, V.splice, List.getElem?_cons_zero, List.getElem?_cons_succ, List.getElem?_nil, List.length_cons, List.length_nil, List.map_cons, List.map_nil, List.cons_append, List.nil_append, List.append_nil, List.take_succ_cons, List.take_zero, List.take_nil, List.drop_succ_cons, List.drop_zero, List.drop_nil, Option.map_some, Option.map_none, ↓reduceIte, reduceCtorEq, Nat.reduceAdd, Nat.reduceLT, Nat.reduceBEq, Int.reduceLT, Int.reduceAdd, Int.reduceBEq, Nat.zero_add, true_and, and_self, true_or, or_false, Bool.true_or, Bool.or_false, Bool.true_and, Bool.and_self, beq_self_eq_true, Nat.le_refl, fz_len, fz_flat, Try.vzero3, Try.bytes3, Try.vt31, Try.velem31, Try.notInt31, Try.vt32, Try.velem32, Try.notInt32, Try.vt34, Try.vfield34x2, Try.vfield34x3, Try.vzero61, Try.bytes61, dec_t, srcN, mem_ok, srcP, mem_ok]))
      | (refine vdrG_split (fun hZ => ?_) (fun hZ => ?_) <;> (try rw [hZ]) <;> (try simp only [decide_eq_true_eq, decide_eq_false_iff_not, Bool.or_eq_true, Bool.and_eq_true, Bool.or_eq_false_iff, Bool.and_eq_false_imp, Bool.not_eq_true', Bool.not_eq_false', beq_iff_eq, beq_eq_false_iff_ne, bne_iff_ne, bne_eq_false_iff_eq, ne_eq, Bool.not_eq_eq_eq_not, Bool.not_true, Bool.not_false] at hZ) <;> (try (first | rw [(hZ : _ = false)] | rw [(hZ : _ = true)])) <;> skip))
    · refine vc_cx (k := 0) (c := c5) (next_v c5 8 (by omega) (by omega)) rfl rfl ?_
      rintro _ c6 ⟨y, rfl, hy⟩
      (try simp (config := { maxSteps := 2000000 }) (implicitDefEqProofs := false) (disch := first | omega | assumption | (simp only []; done) | fail) only [vop_load, vcallee_load, vop_store, vcallee_store, vop_fieldAddr, vcallee_fieldAddr, strip_pv, strip_ptr, strip_agg, optV_none, ev_tmp, put_some, put_none, at_mk, fits_some, fits_none, ↓look_cons, ↓vlook_t, ↓vlook_f, guard_none, ↓vrun_nil, ↓code_region, ↓code_seq, ↓code_ret, ↓onNormal_normal, ↓onBlock_normal, frz_agg, frz1_pv, allSome_nil, allSome_cons, res_one, vres_cell, load_ptr, vld_agg, store_ptr, vst_one, vst_agg, blk_zero, blk_succ, set_zero, set_succ, allOne_nil, allOne_cons, one_pv, faddr_ptr, vfap_some, evG_eq, ↓vrun_cons, ↓run1_some, ↓runG_true, ↓run2_none, ↓run3_some, ↓runK_eq, ↓vpost_ret, vfin_some, vfin2_some, at_hp, frzHeap_one, frzH1_some, List.map_nil, V.splice, List.length_cons, List.length_nil, List.map_cons, List.map_nil, List.nil_append, List.append_nil, List.take_succ_cons, List.take_zero, List.take_nil, List.drop_succ_cons, List.drop_zero, List.drop_nil, List.set_cons_zero, Option.map_some, ↓reduceIte, reduceCtorEq, Nat.reduceAdd, Nat.reduceLT, Nat.reduceBEq, Int.reduceLT, Int.reduceAdd, Int.reduceBEq, Nat.zero_add, Nat.add_zero, true_and, and_self, Bool.true_and, Bool.and_self, beq_self_eq_true, Nat.le_refl, Try.vt3, Try.vt34, Try.vfield34x0, dec_t, cb, cc])
      repeat' (first
        | (refine vrunG_split (fun hZ => ?_) (fun hZ => ?_) <;> (try rw [hZ]) <;> (try simp only [decide_eq_true_eq, decide_eq_false_iff_not, Bool.or_eq_true, Bool.and_eq_true, Bool.or_eq_false_iff, Bool.and_eq_false_imp, Bool.not_eq_true', Bool.not_eq_false', beq_iff_eq, beq_eq_false_iff_ne, bne_iff_ne, bne_eq_false_iff_eq, ne_eq, Bool.not_eq_eq_eq_not, Bool.not_true, Bool.not_false] at hZ) <;> (try (first | rw [(hZ : _ = false)] | rw [(hZ : _ = true)])) <;> skip)
        | (refine vbr_split (fun hZ => ?_) (fun hZ => ?_) <;> (try rw [hZ]) <;> (try simp only [decide_eq_true_eq, decide_eq_false_iff_not, Bool.or_eq_true, Bool.and_eq_true, Bool.or_eq_false_iff, Bool.and_eq_false_imp, Bool.not_eq_true', Bool.not_eq_false', beq_iff_eq, beq_eq_false_iff_ne, bne_iff_ne, bne_eq_false_iff_eq, ne_eq, Bool.not_eq_eq_eq_not, Bool.not_true, Bool.not_false] at hZ) <;> (try (first | rw [(hZ : _ = false)] | rw [(hZ : _ = true)])) <;> skip)
        | (refine vdrG_split (fun hZ => ?_) (fun hZ => ?_) <;> (try rw [hZ]) <;> (try simp only [decide_eq_true_eq, decide_eq_false_iff_not, Bool.or_eq_true, Bool.and_eq_true, Bool.or_eq_false_iff, Bool.and_eq_false_imp, Bool.not_eq_true', Bool.not_eq_false', beq_iff_eq, beq_eq_false_iff_ne, bne_iff_ne, bne_eq_false_iff_eq, ne_eq, Bool.not_eq_eq_eq_not, Bool.not_true, Bool.not_false] at hZ) <;> (try (first | rw [(hZ : _ = false)] | rw [(hZ : _ = true)])) <;> skip))
      exact ⟨_, rfl, rfl, cc_nums _, rfl, ⟨⟨y, spares, places, bad⟩, rfl, by dsimp only at *; omega, by dsimp only at *; omega⟩, c6, rfl⟩
    · refine vc_cx (k := 0) (c := c5) (next_v c5 12 (by omega) (by omega)) rfl rfl ?_
      rintro _ c6 ⟨y, rfl, hy⟩
      (try simp (config := { maxSteps := 2000000 }) (implicitDefEqProofs := false) (disch := first | omega | assumption | (simp only []; done) | (simp only [List.length_append, List.length_cons, List.length_nil] <;> omega) | fail) only [vop_buildSlice, vcallee_buildSlice, vop_load, vcallee_load, vop_store, vcallee_store, vop_fieldAddr, vcallee_fieldAddr, vop_builtin, vcallee_builtin, strip_pv, strip_ptr, strip_own, strip_agg, optV_none, ev_tmp, put_some, put_none, at_mk, fits_some, fits_none, ↓look_cons, ↓vlook_t, ↓vlook_f, guard_none, ↓vrun_nil, ↓code_region, ↓code_seq, ↓code_ret, ↓onNormal_normal, ↓onBlock_normal, frz_agg, frz1_pv, frz1_own, allSome_nil, allSome_cons, res_one, vres_cell, load_ptr, vld_agg, store_ptr, vst_one, vst_agg, blk_zero, blk_succ, set_zero, set_succ, allOne_nil, allOne_cons, one_pv, one_own, faddr_ptr, vfap_some, bi_append, ap2_own, parts_nil, parts_cons, evG_eq, ↓vrun_cons, ↓run1_some, ↓runG_true, ↓run2_none, ↓run3_some, ↓runK_eq, ↓vpost_ret, vfin_some, vfin2_some, at_hp, frzHeap_one, frzH1_some, List.map_nil, dcells, vfill, vbuildSlice, V.mk, vsrc, vbase, vappend, V.kill, V.splice, List.getElem?_cons_zero, List.getElem?_cons_succ, List.length_cons, List.length_nil, List.map_cons, List.map_nil, List.cons_append, List.nil_append, List.append_nil, List.take_succ_cons, List.take_zero, List.take_nil, List.drop_succ_cons, List.drop_zero, List.drop_nil, List.set_cons_zero, List.set_cons_succ, Option.map_some, ↓reduceIte, reduceCtorEq, Nat.reduceAdd, Nat.reduceLT, Nat.reduceLeDiff, Nat.reduceBEq, Int.reduceLT, Int.reduceAdd, Int.reduceBEq, Nat.zero_add, Nat.mul_one, true_and, and_self, Bool.true_and, Bool.and_self, beq_self_eq_true, Nat.le_refl, frzP_own, frzC_I, cellsI_len, Try.vzero3, Try.bytes3, Try.vt32, Try.velem32, Try.notInt32, Try.vt34, Try.vfield34x3, dec_t, cb, cc, allN, mem_ok, app1N, mem_ok])
      repeat' (first
        | (refine vrunG_split (fun hZ => ?_) (fun hZ => ?_) <;> (try rw [hZ]) <;> (try simp only [decide_eq_true_eq, decide_eq_false_iff_not, Bool.or_eq_true, Bool.and_eq_true, Bool.or_eq_false_iff, Bool.and_eq_false_imp, Bool.not_eq_true', Bool.not_eq_false', beq_iff_eq, beq_eq_false_iff_ne, bne_iff_ne, bne_eq_false_iff_eq, ne_eq, Bool.not_eq_eq_eq_not, Bool.not_true, Bool.not_false] at hZ) <;> (try (first | rw [(hZ : _ = false)] | rw [(hZ : _ = true)])) <;> skip)
        | (refine vbr_split (fun hZ => ?_) (fun hZ => ?_) <;> (try rw [hZ]) <;> (try simp only [decide_eq_true_eq, decide_eq_false_iff_not, Bool.or_eq_true, Bool.and_eq_true, Bool.or_eq_false_iff, Bool.and_eq_false_imp, Bool.not_eq_true', Bool.not_eq_false', beq_iff_eq, beq_eq_false_iff_ne, bne_iff_ne, bne_eq_false_iff_eq, ne_eq, Bool.not_eq_eq_eq_not, Bool.not_true, Bool.not_false] at hZ) <;> (try (first | rw [(hZ : _ = false)] | rw [(hZ : _ = true)])) <;> skip)
        | (refine vdrG_split (fun hZ => ?_) (fun hZ => ?_) <;> (try rw [hZ]) <;> (try simp only [decide_eq_true_eq, decide_eq_false_iff_not, Bool.or_eq_true, Bool.and_eq_true, Bool.or_eq_false_iff, Bool.and_eq_false_imp, Bool.not_eq_true', Bool.not_eq_false', beq_iff_eq, beq_eq_false_iff_ne, bne_iff_ne, bne_eq_false_iff_eq, ne_eq, Bool.not_eq_eq_eq_not, Bool.not_true, Bool.not_false] at hZ) <;> (try (first | rw [(hZ : _ = false)] | rw [(hZ : _ = true)])) <;> skip))
      exact ⟨_, rfl, rfl, cc_nums _, rfl, ⟨⟨pages, spares, places, bad ++ [(y : Int)]⟩, rfl, by dsimp only at *; omega, by dsimp only at *; rw [List.length_append, List.length_singleton]; omega⟩, c6, rfl⟩
    · refine vc_cx (k := 0) (c := c5) (next_v c5 6 (by omega) (by omega)) rfl rfl ?_
      rintro _ c6 ⟨y, rfl, hy⟩
      simp (config := { maxSteps := 2000000 }) (implicitDefEqProofs := false) (disch := first | omega | assumption | (simp only []; done) | fail) only [vop_move, vcallee_move, vcallee_value, vcal_fn, strip_pv, strip_ptr, strip_fn, optV_none, ev_tmp, ev_const, ev_func, ofConst_int, put_some, at_mk, fits_some, ↓look_cons, ↓vlook_t, ↓vlook_f, guard_none, evG_eq, ↓vrun_cons, ↓run1_some, ↓runG_true, ↓run2_none, ↓run2_some, ↓run3_some, ↓runK_eq, at_hp, List.map_nil, List.map_cons, List.map_nil, List.nil_append, List.append_nil, List.set_cons_zero, Nat.reduceLT, Nat.reduceBEq, Int.reduceLT, Int.reduceBEq, true_and, Bool.true_and, beq_self_eq_true, dec_t]
      refine vc_cx (k := 0) (c := c6) (next_v c6 12 (by omega) (by omega)) rfl rfl ?_
      rintro _ c7 ⟨z, rfl, hz⟩
      have happ := app1P places ⟨y, z⟩
      dsimp only at happ
      (try simp (config := { maxSteps := 2000000 }) (implicitDefEqProofs := false) (disch := first | omega | assumption | (simp only []; done) | (simp only [List.length_append, List.length_cons, List.length_nil] <;> omega) | fail) only [vop_build, vcallee_build, vop_buildSlice, vcallee_buildSlice, vop_load, vcallee_load, vop_store, vcallee_store, vop_fieldAddr, vcallee_fieldAddr, vop_builtin, vcallee_builtin, strip_pv, strip_ptr, strip_own, strip_agg, optV_none, ev_tmp, put_some, put_none, at_mk, fits_some, fits_none, ↓look_cons, ↓vlook_t, ↓vlook_f, guard_none, ↓vrun_nil, ↓code_region, ↓code_seq, ↓code_ret, ↓onNormal_normal, ↓onBlock_normal, frz_agg, frz1_pv, frz1_own, allSome_nil, allSome_cons, res_one, vres_cell, load_ptr, vld_agg, store_ptr, vst_one, vst_agg, blk_zero, blk_succ, set_zero, set_succ, allOne_nil, allOne_cons, one_pv, one_own, faddr_ptr, vfap_some, bi_append, ap2_own, parts_nil, parts_cons, evG_eq, ↓vrun_cons, ↓run1_some, ↓runG_true, ↓run2_none, ↓run3_some, ↓runK_eq, ↓vpost_ret, vfin_some, vfin2_some, at_hp, frzHeap_one, frzH1_some, List.map_nil, dcells, vbuild, vfill, vbuildSlice, V.mk, vsrc, vbase, vappend, V.kill, V.splice, List.getElem?_cons_zero, List.getElem?_cons_succ, List.length_cons, List.length_nil, List.map_cons, List.map_nil, List.cons_append, List.nil_append, List.append_nil, List.take_succ_cons, List.take_zero, List.take_nil, List.drop_succ_cons, List.drop_zero, List.drop_nil, List.set_cons_zero, List.set_cons_succ, Option.map_some, ↓reduceIte, reduceCtorEq, Nat.reduceAdd, Nat.reduceLT, Nat.reduceLeDiff, Nat.reduceBEq, Int.reduceLT, Int.reduceAdd, Int.reduceBEq, Nat.zero_add, Nat.zero_mul, Nat.one_mul, true_and, and_self, Bool.true_and, Bool.and_self, beq_self_eq_true, Nat.le_refl, frzP_own, Try.vt31, Try.velem31, Try.notInt31, Try.vt34, Try.vfield34x2, Try.vplaces61, Try.vzero61, Try.bytes61, dec_t, cb, cc, mem_ok, lenP, allP, frzP, mem_ok, happ])
      repeat' (first
        | (refine vrunG_split (fun hZ => ?_) (fun hZ => ?_) <;> (try rw [hZ]) <;> (try simp only [decide_eq_true_eq, decide_eq_false_iff_not, Bool.or_eq_true, Bool.and_eq_true, Bool.or_eq_false_iff, Bool.and_eq_false_imp, Bool.not_eq_true', Bool.not_eq_false', beq_iff_eq, beq_eq_false_iff_ne, bne_iff_ne, bne_eq_false_iff_eq, ne_eq, Bool.not_eq_eq_eq_not, Bool.not_true, Bool.not_false] at hZ) <;> (try (first | rw [(hZ : _ = false)] | rw [(hZ : _ = true)])) <;> skip)
        | (refine vbr_split (fun hZ => ?_) (fun hZ => ?_) <;> (try rw [hZ]) <;> (try simp only [decide_eq_true_eq, decide_eq_false_iff_not, Bool.or_eq_true, Bool.and_eq_true, Bool.or_eq_false_iff, Bool.and_eq_false_imp, Bool.not_eq_true', Bool.not_eq_false', beq_iff_eq, beq_eq_false_iff_ne, bne_iff_ne, bne_eq_false_iff_eq, ne_eq, Bool.not_eq_eq_eq_not, Bool.not_true, Bool.not_false] at hZ) <;> (try (first | rw [(hZ : _ = false)] | rw [(hZ : _ = true)])) <;> skip)
        | (refine vdrG_split (fun hZ => ?_) (fun hZ => ?_) <;> (try rw [hZ]) <;> (try simp only [decide_eq_true_eq, decide_eq_false_iff_not, Bool.or_eq_true, Bool.and_eq_true, Bool.or_eq_false_iff, Bool.and_eq_false_imp, Bool.not_eq_true', Bool.not_eq_false', beq_iff_eq, beq_eq_false_iff_ne, bne_iff_ne, bne_eq_false_iff_eq, ne_eq, Bool.not_eq_eq_eq_not, Bool.not_true, Bool.not_false] at hZ) <;> (try (first | rw [(hZ : _ = false)] | rw [(hZ : _ = true)])) <;> skip))
      exact ⟨_, rfl, rfl, cc_nums _, rfl, ⟨⟨pages, spares, places ++ [⟨y, z⟩], bad⟩, rfl, by dsimp only at *; rw [List.length_append, List.length_singleton]; omega, by dsimp only at *; omega⟩, c7, rfl⟩
    · refine vc_cx (k := 0) (c := c5) (dint_v c5) rfl rfl ?_
      rintro _ c6 ⟨y, rfl, hy⟩
      (try simp (config := { maxSteps := 2000000 }) (implicitDefEqProofs := false) (disch := first | omega | assumption | (simp only []; done) | fail) only [vop_load, vcallee_load, vop_store, vcallee_store, vop_fieldAddr, vcallee_fieldAddr, strip_pv, strip_ptr, strip_agg, optV_none, ev_tmp, put_some, put_none, at_mk, fits_some, fits_none, ↓look_cons, ↓vlook_t, ↓vlook_f, guard_none, ↓vrun_nil, ↓code_region, ↓code_seq, ↓code_ret, ↓onNormal_normal, ↓onBlock_normal, frz_agg, frz1_pv, allSome_nil, allSome_cons, res_one, vres_cell, load_ptr, vld_agg, store_ptr, vst_one, vst_agg, blk_zero, blk_succ, set_zero, set_succ, allOne_nil, allOne_cons, one_pv, faddr_ptr, vfap_some, evG_eq, ↓vrun_cons, ↓run1_some, ↓runG_true, ↓run2_none, ↓run3_some, ↓runK_eq, ↓vpost_ret, vfin_some, vfin2_some, at_hp, frzHeap_one, frzH1_some, List.map_nil, V.splice, List.length_cons, List.length_nil, List.map_cons, List.map_nil, List.nil_append, List.append_nil, List.take_succ_cons, List.take_zero, List.take_nil, List.drop_succ_cons, List.drop_zero, List.drop_nil, List.set_cons_zero, List.set_cons_succ, Option.map_some, ↓reduceIte, reduceCtorEq, Nat.reduceAdd, Nat.reduceLT, Nat.reduceBEq, Int.reduceLT, Int.reduceAdd, Int.reduceBEq, Nat.zero_add, true_and, and_self, Bool.true_and, Bool.and_self, beq_self_eq_true, Nat.le_refl, Try.vt3, Try.vt34, Try.vfield34x1, dec_t, cb, cc])
      repeat' (first
        | (refine vrunG_split (fun hZ => ?_) (fun hZ => ?_) <;> (try rw [hZ]) <;> (try simp only [decide_eq_true_eq, decide_eq_false_iff_not, Bool.or_eq_true, Bool.and_eq_true, Bool.or_eq_false_iff, Bool.and_eq_false_imp, Bool.not_eq_true', Bool.not_eq_false', beq_iff_eq, beq_eq_false_iff_ne, bne_iff_ne, bne_eq_false_iff_eq, ne_eq, Bool.not_eq_eq_eq_not, Bool.not_true, Bool.not_false] at hZ) <;> (try (first | rw [(hZ : _ = false)] | rw [(hZ : _ = true)])) <;> skip)
        | (refine vbr_split (fun hZ => ?_) (fun hZ => ?_) <;> (try rw [hZ]) <;> (try simp only [decide_eq_true_eq, decide_eq_false_iff_not, Bool.or_eq_true, Bool.and_eq_true, Bool.or_eq_false_iff, Bool.and_eq_false_imp, Bool.not_eq_true', Bool.not_eq_false', beq_iff_eq, beq_eq_false_iff_ne, bne_iff_ne, bne_eq_false_iff_eq, ne_eq, Bool.not_eq_eq_eq_not, Bool.not_true, Bool.not_false] at hZ) <;> (try (first | rw [(hZ : _ = false)] | rw [(hZ : _ = true)])) <;> skip)
        | (refine vdrG_split (fun hZ => ?_) (fun hZ => ?_) <;> (try rw [hZ]) <;> (try simp only [decide_eq_true_eq, decide_eq_false_iff_not, Bool.or_eq_true, Bool.and_eq_true, Bool.or_eq_false_iff, Bool.and_eq_false_imp, Bool.not_eq_true', Bool.not_eq_false', beq_iff_eq, beq_eq_false_iff_ne, bne_iff_ne, bne_eq_false_iff_eq, ne_eq, Bool.not_eq_eq_eq_not, Bool.not_true, Bool.not_false] at hZ) <;> (try (first | rw [(hZ : _ = false)] | rw [(hZ : _ = true)])) <;> skip))
      exact ⟨_, rfl, rfl, cc_nums _, rfl, ⟨⟨pages, y, places, bad⟩, rfl, by dsimp only at *; omega, by dsimp only at *; omega⟩, c6, rfl⟩
    · exact ⟨_, rfl, rfl, cc_nums _, rfl, ⟨⟨pages, spares, places, bad⟩, rfl, by dsimp only at *; omega, by dsimp only at *; omega⟩, c5, rfl⟩
end Go.Proofs.Ytnilcppifcekmaa
namespace Go.Proofs.Ytnilcppifcekmaa
open Go.V Go
theorem flatP_len (l : List Pl) : (flatP l).length = 2 * l.length := by
  induction l with
  | nil => rfl
  | cons p r ih => simp only [flatP, List.flatMap_cons, List.length_append, List.length_cons, List.length_nil] at ih ⊢; omega
theorem flatP_get (l : List Pl) (i : Nat) (h : i < l.length) : (flatP l).getD (2 * i) 0 = (l.getD i P0).pg ∧ (flatP l).getD (2 * i + 1) 0 = (l.getD i P0).ad := by
  induction l generalizing i with
  | nil => simp at h
  | cons p r ih =>
    cases i with
    | zero => exact ⟨rfl, rfl⟩
    | succ i =>
      have := ih i (by simpa using h)
      simpa [flatP, Nat.mul_add] using this
theorem numsR_len (r : Rm) : (numsR r).length = 4 + 2 * r.places.length + r.bad.length := by
  unfold numsR
  simp only [List.length_append, List.length_cons, List.length_nil, flatP_len]
  omega
theorem byte_small {n : Int} (h0 : 0 ≤ n) (h1 : n < 256) : ((byteI n 0).toNat : Int) = n := by
  rw [← byteI_eq]
  unfold byteX
  rw [wrap_u8_eq]
  have e : IntKind.u64.wrap n = n := by simp [IntKind.wrap, IntKind.signed, IntKind.bits]; omega
  rw [e]
  simp
  omega
theorem getD_map0 {α β : Type} (f : α → β) (l : List α) (k : Nat) (h : k < l.length) (d : α) (d' : β) : (l.map f).getD k d' = f (l.getD k d) := by
  simp [List.getD_eq_getElem?_getD, h]
theorem nums_get {r : Rm} (hs : ∀ n ∈ numsR r, 0 ≤ n ∧ n < 256) (k : Nat) (h : k < (numsR r).length) : (nb ((numsR r).map fun n => byteI n 0) k : Int) = (numsR r).getD k 0 := by
  unfold nb
  rw [getD_map0 (fun n => byteI n 0) _ k h 0 0]
  have hm : (numsR r).getD k 0 ∈ numsR r := by rw [List.getD_eq_getElem?_getD, List.getElem?_eq_getElem h]; exact List.getElem_mem h
  exact byte_small (hs _ hm).1 (hs _ hm).2
theorem getD_app1 {α : Type} (a b : List α) (k : Nat) (h : k < a.length) (d : α) : (a ++ b).getD k d = a.getD k d := by
  simp [List.getD_eq_getElem?_getD, List.getElem?_append_left h]
theorem getD_app2 {α : Type} (a b : List α) (k : Nat) (d : α) : (a ++ b).getD (a.length + k) d = b.getD k d := by
  simp [List.getD_eq_getElem?_getD, List.getElem?_append_right]
theorem rd_note {r : Rm} (hs : ∀ n ∈ numsR r, 0 ≤ n ∧ n < 256) : rdQ ((numsR r).map fun n => byteI n 0) = r ∧ ((numsR r).map fun n => byteI n 0).length = 4 + 2 * rdN ((numsR r).map fun n => byteI n 0) + rdM ((numsR r).map fun n => byteI n 0) := by
  have hl := numsR_len r
  have g := nums_get hs
  have e : numsR r = [r.pages, r.spares, (r.places.length : Int)] ++ (flatP r.places ++ ([(r.bad.length : Int)] ++ r.bad)) := by simp [numsR]
  have g0 := g 0 (by omega)
  have g1 := g 1 (by omega)
  have g2 := g 2 (by omega)
  rw [show (numsR r).getD 0 0 = r.pages by rw [e]; rfl] at g0
  rw [show (numsR r).getD 1 0 = r.spares by rw [e]; rfl] at g1
  rw [show (numsR r).getD 2 0 = (r.places.length : Int) by rw [e]; rfl] at g2
  have gp : ∀ i, i < r.places.length → (nb ((numsR r).map fun n => byteI n 0) (3 + 2 * i) : Int) = (r.places.getD i P0).pg ∧ (nb ((numsR r).map fun n => byteI n 0) (4 + 2 * i) : Int) = (r.places.getD i P0).ad := fun i hi => by
    obtain ⟨f1, f2⟩ := flatP_get r.places i hi
    have hf := flatP_len r.places
    rw [g (3 + 2 * i) (by omega), g (4 + 2 * i) (by omega), e, show 4 + 2 * i = 3 + (2 * i + 1) by omega, show 3 + 2 * i = ([r.pages, r.spares, (r.places.length : Int)] : List Int).length + 2 * i from rfl, getD_app2, show 3 + (2 * i + 1) = ([r.pages, r.spares, (r.places.length : Int)] : List Int).length + (2 * i + 1) from rfl, getD_app2, getD_app1 _ _ _ (by omega), getD_app1 _ _ _ (by omega)]
    exact ⟨f1, f2⟩
  have hf := flatP_len r.places
  have gm : (nb ((numsR r).map fun n => byteI n 0) (3 + 2 * r.places.length) : Int) = r.bad.length := by
    rw [g _ (by omega), e, show 3 + 2 * r.places.length = ([r.pages, r.spares, (r.places.length : Int)] : List Int).length + ((flatP r.places).length + 0) by simp [hf], getD_app2, getD_app2]; rfl
  have gb : ∀ j, j < r.bad.length → (nb ((numsR r).map fun n => byteI n 0) (4 + 2 * r.places.length + j) : Int) = r.bad.getD j 0 := fun j hj => by
    rw [g _ (by omega), e, show 4 + 2 * r.places.length + j = ([r.pages, r.spares, (r.places.length : Int)] : List Int).length + ((flatP r.places).length + (1 + j)) by simp [hf]; omega, getD_app2, getD_app2, show 1 + j = ([(r.bad.length : Int)] : List Int).length + j from rfl, getD_app2]
  have hlt : ((numsR r).map fun n => byteI n 0).length = 4 + 2 * r.places.length + r.bad.length := by rw [List.length_map]; exact hl
  generalize (numsR r).map (fun n => byteI n 0) = t at *
  have hN : rdN t = r.places.length := by unfold rdN; omega
  have hM : rdM t = r.bad.length := by unfold rdM; rw [hN]; omega
  have hP : rdP t (rdN t) = r.places := by
    rw [hN]
    apply List.ext_getElem
    · simp [rdP]
    · intro i h1 h2
      have := gp i h2
      rw [List.getD_eq_getElem?_getD, List.getElem?_eq_getElem h2] at this
      simp only [rdP, List.getElem_map, List.getElem_range, Option.getD_some] at this ⊢
      obtain ⟨q1, q2⟩ := this
      cases hx : r.places[i]
      rw [hx] at q1 q2
      rw [q1, q2]
  have hB : rdB t (rdN t) (rdM t) = r.bad := by
    rw [hN, hM]
    apply List.ext_getElem
    · simp [rdB]
    · intro j h1 h2
      have := gb j h2
      rw [List.getD_eq_getElem?_getD, List.getElem?_eq_getElem h2] at this
      simp only [rdB, List.getElem_map, List.getElem_range, Option.getD_some] at this ⊢
      exact this
  refine ⟨?_, ?_⟩
  · unfold rdQ
    rw [hP, hB, g0, g1]
  · rw [hN, hM, hlt]
theorem nums_small {r : Rm} (h : r.okB = true) : ∀ n ∈ numsR r, 0 ≤ n ∧ n < 256 := by
  have ho := (ok_iff r).1 h
  obtain ⟨h1, h2⟩ := ok64 r ho
  intro n hn
  simp only [numsR, List.mem_append, List.mem_cons, List.not_mem_nil, or_false] at hn
  rcases hn with (((hn | hn | hn) | hn) | hn) | hn
  · have := ho.p1; have := ho.p2; omega
  · have := ho.s1; have := ho.s2; omega
  · omega
  · obtain ⟨p, hp, hm⟩ := List.mem_flatMap.1 hn
    have := ho.prng p hp
    have := ho.p2
    have := ho.s3
    simp only [List.mem_cons, List.not_mem_nil, or_false] at hm
    rcases hm with rfl | rfl <;> omega
  · omega
  · have := ho.brng n hn
    have := ho.s3
    omega
theorem hit_note {r : Rm} (h : r.okB = true) (a : Int) : hitE { noteE r with lsn := a } = true := by
  obtain ⟨h1, h2⟩ := rd_note (nums_small h)
  have e1 : ({ noteE r with lsn := a } : E).kind = 8 := rfl
  have e2 : ({ noteE r with lsn := a } : E).blob = [81, 77] ++ (numsR r).map fun n => byteI n 0 := rfl
  have hb : blobB ([81, 77] ++ (numsR r).map fun n => byteI n 0) = true := by
    have e3 : (([81, 77] : List UInt8) ++ (numsR r).map fun n => byteI n 0).take 2 = [81, 77] := rfl
    have e4 : (([81, 77] : List UInt8) ++ (numsR r).map fun n => byteI n 0).drop 2 = (numsR r).map fun n => byteI n 0 := rfl
    unfold blobB
    rw [decide_eq_true e3, e4]
    unfold rdOk
    rw [h1, h, decide_eq_true h2]; rfl
  unfold hitE
  rw [decide_eq_true e1, e2, hb]; rfl
theorem rd_noteE {r : Rm} (h : r.okB = true) : rdQ ((noteE r).blob.drop 2) = r := (rd_note (nums_small h)).1
end Go.Proofs.Ytnilcppifcekmaa
namespace Go.Proofs.Ytnilcppifcekmaa
open Go.V Go
attribute [local go_sem] Rm.d appD cb cc allEq leafEq E.d noteE Ch0 Ce0
theorem app_lgB {x : Lg} {e : E} (h : lgB x = true) (hl : x.es.length < 4096) (he : ({ e with lsn := x.end_ + 1 } : E).okB = true) : lgB ⟨x.f, x.es ++ [{ e with lsn := x.end_ + 1 }], x.d⟩ = true := by
  have hh := lgB_hd h
  simp only [Lg.hd] at hh
  unfold lgB at h ⊢
  simp only [Bool.and_eq_true, decide_eq_true_eq, List.all_eq_true, List.mem_range] at h ⊢
  refine ⟨⟨hh.1, hh.2.1, by simp; omega, hh.2.2.2.1, by simp; omega⟩, fun i hi => ?_⟩
  simp only [List.length_append, List.length_singleton] at hi
  unfold lgC
  dsimp only
  by_cases hil : i < x.es.length
  · rw [getD_app1 _ _ _ hil]
    exact h.2 i hil
  · obtain rfl : i = x.es.length := by omega
    have := getD_app2 x.es [({ e with lsn := x.end_ + 1 } : E)] 0 E0
    rw [Nat.add_zero] at this
    rw [this]
    simp only [List.getD_cons_zero, Bool.and_eq_true, decide_eq_true_eq]
    exact ⟨by unfold Lg.end_; omega, he⟩
theorem app_st {x : Lg} {e : E} (h : lgB x = true) (h0 : (appS x e).2.2 = 0) : lgB (appS x e).1 = true ∧ (appS x e).1.f = x.f ∧ (appS x e).1.es.length = x.es.length + 1 := by
  unfold appS at h0 ⊢
  rw [if_neg (by simp [h])] at h0 ⊢
  split at h0
  · simp at h0
  rename_i h1
  rw [if_neg h1]
  split at h0
  · simp at h0
  rename_i h2
  rw [if_neg h2]
  have hh := lgB_hd h
  simp only [Lg.hd] at hh
  exact ⟨app_lgB h (by omega) (by simpa using h2), rfl, by simp⟩
theorem noteE_ok {r : Rm} (h : r.okB = true) {n : Int} (h1 : 1 ≤ n) (h2 : n ≤ 1099511627776) : ({ noteE r with lsn := n } : E).okB = true := by
  have hb := ok64 r ((ok_iff r).1 h)
  have hl : (blobR r).length ≤ 8192 := by
    unfold blobR
    simp only [List.length_append, List.length_map, List.length_cons, List.length_nil, numsR_len]
    omega
  unfold E.okB E.kindB noteE
  simp [bef, Ch.no, Ce.no, Ch0, Ce0, h1, h2, hl]
  omega
theorem app_note {x : Lg} {r : Rm} (h : lgB x = true) (hf : x.f = 1) (hl : x.es.length ≤ 5) (hr : r.okB = true) : appS x (noteE r) = (⟨x.f, x.es ++ [{ noteE r with lsn := x.end_ + 1 }], x.d⟩, x.end_ + 1, 0) ∧ latS ⟨x.f, x.es ++ [{ noteE r with lsn := x.end_ + 1 }], x.d⟩ = (r, x.end_ + 1, true) := by
  have he : x.end_ + 1 = x.es.length + 1 := by unfold Lg.end_; omega
  have hok : ({ noteE r with lsn := x.end_ + 1 } : E).okB = true := noteE_ok hr (by omega) (by omega)
  constructor
  · unfold appS
    rw [if_neg (by simp [h]), if_neg (by omega), if_neg (by simp [hok])]
  · have hg : (x.es ++ [({ noteE r with lsn := x.end_ + 1 } : E)]).getD x.es.length E0 = { noteE r with lsn := x.end_ + 1 } := by
      have := getD_app2 x.es [({ noteE r with lsn := x.end_ + 1 } : E)] 0 E0
      rwa [Nat.add_zero] at this
    unfold latS
    rw [if_pos (app_lgB h (by omega) hok)]
    dsimp only
    rw [latN_hit (i := x.es.length) (by rw [hg]; exact hit_note hr _) (by simp) (fun j h1 h2 => by simp at h2; omega), hg]
    show (rdQ ((noteE r).blob.drop 2), x.end_ + 1, true) = _
    rw [rd_noteE hr]
theorem rdQ_sm (t : List UInt8) : (rdQ t).sm := by
  have h1 : rdN t < 256 := UInt8.toNat_lt _
  have h2 : rdM t < 256 := UInt8.toNat_lt _
  refine ⟨?_, ?_⟩
  · simp [rdQ, rdP]; omega
  · simp [rdQ, rdB]; omega
theorem latN_sm (es : List E) : ∀ n, (latN es n).1.sm
  | 0 => ⟨by simp [latN, Rz], by simp [latN, Rz]⟩
  | n + 1 => by
    unfold latN
    split
    · exact rdQ_sm _
    · exact latN_sm es n
theorem latS_sm (x : Lg) : (latS x).1.sm := by
  unfold latS
  split
  · exact latN_sm _ _
  · exact ⟨by simp [Rz], by simp [Rz]⟩
structure NS where
  k : Nat
  c : C
  x : Lg
  ok : lgB x = true
  hf : x.f = 1
  hl : x.es.length + k ≤ 5
theorem notes_v (l : List UInt8) (hl : l.length ≤ 9223372036854775807) (s : List UInt8) (hs : s.length ≤ 9223372036854775807) : VCalls Try.prog 3 [.pv (.sl (fz encU l)), .pv (.str s)] [] (Ret (.bool true)) := by
  refine dk Try.func3 ?_
  (unfold Try.f3; refine rn trivial ?_)
  refine vc_pure awake_v rfl ?_
  refine rn trivial ?_
  by_cases h200 : (200 : Int) < s.length
  · (refine rn @h200 ?_; try with_reducible exact True.intro)
  refine rn @h200 ?_
  refine vc_draw (l := l) (most := 300) (by omega) (by omega) hl fun c0 => ?_
  refine rn trivial ?_
  refine vc_pure rlnew_v rfl ?_
  refine rn trivial ?_
  refine vc_cx (k := 0) (c := c0) (next_v c0 6 (by omega) (by omega)) rfl rfl ?_
  rintro _ c1 ⟨z, rfl, hz⟩
  refine rn trivial ?_
  refine vloopW (fun t : NS => ⟨132, 0, [(7, .int .i64 t.k), (6, .ptr 1 0), (5, .ptr 0 0), (1, .pv (.str s))], [cb t.c, ⟨28, true, t.x.c⟩]⟩) (fun t => t.k) ⟨z, c1, Lg1, Lg1_ok, rfl, by show 0 + z ≤ 5; omega⟩ (gc [0, 1]) ?_
  rintro ⟨k, c2, x, hok, hf, hxl⟩
  dsimp only
  have hx9 : x.es.length ≤ 9223372036854775807 := by omega
  by_cases hk : 0 < k
  · have hk' : (0 : Int) < k := by omega
    refine rn @hk' ?_
    refine vc_cx (k := 0) (c := c2) (rdraw_v c2) rfl rfl ?_
    rintro _ c3 ⟨r, rfl, hr⟩
    refine rn trivial ?_
    refine vc_pure (note_v r hr.sm) rfl ?_
    refine rn trivial ?_
    refine vdraw (by kernel_rfl) (by kernel_rfl) ?_
    refine rn trivial ?_
    refine vdc_call (rnote_v r hr.sm) rfl rfl ?_
    refine rn trivial ?_
    obtain ⟨j, rfl⟩ : ∃ j, k = j + 1 := ⟨k - 1, by omega⟩
    have hkk : ((j + 1 : Nat) : Int) - 1 = j := by omega
    refine vc_cx (k := 0) (c := c3) (next_v c3 4 (by omega) (by omega)) rfl rfl ?_
    rintro _ c4 ⟨y, rfl, hy⟩
    have hbl : (blobR r).length ≤ 900000000 := by
      unfold blobR
      simp only [List.length_append, List.length_map, List.length_cons, List.length_nil, numsR_len]
      have := hr.1
      have := hr.2
      omega
    by_cases y0 : y = 0
    · subst y0
      refine rn trivial ?_
      have ha := @app_st x ⟨0, 8, 0, 0, 0, 0, Ch0, s⟩ hok
      refine vc_pure (rappend_v x hx9 ⟨0, 8, 0, 0, 0, 0, Ch0, s⟩) rfl ?_
      generalize appS x ⟨0, 8, 0, 0, 0, 0, Ch0, s⟩ = q at *
      obtain ⟨x', n', st⟩ := q
      dsimp only at ha
      refine rn trivial ?_
      by_cases h0 : st = 0
      · obtain ⟨a1, a2, a3⟩ := ha h0
        refine rn (And.intro @h0 @hkk) ?_
        exact ⟨⟨j, c4, x', a1, a2.trans hf, by omega⟩, by dsimp only; omega, (gc [0, 1])⟩
      · (refine rn (And.intro @h0 @hkk) ?_; try with_reducible exact True.intro)
        exact ⟨⟨j, c4, x, hok, hf, by omega⟩, by dsimp only; omega, (gc [0, 1])⟩
    by_cases y1 : y = 1
    · subst y1
      refine rn trivial ?_
      refine vc_cx (k := 0) (c := c4) (spoilt_v c4 (blobR r) hbl) rfl rfl ?_
      rintro _ c5 ⟨t, rfl, ht⟩
      refine rn trivial ?_
      have ha := @app_st x { noteE r with blob := t } hok
      refine vc_pure (rappend_v x hx9 { noteE r with blob := t }) rfl ?_
      generalize appS x { noteE r with blob := t } = q at *
      obtain ⟨x', n', st⟩ := q
      dsimp only at ha
      refine rn trivial ?_
      by_cases h0 : st = 0
      · obtain ⟨a1, a2, a3⟩ := ha h0
        refine rn (And.intro @h0 @hkk) ?_
        exact ⟨⟨j, c5, x', a1, a2.trans hf, by omega⟩, by dsimp only; omega, (gc [0, 1])⟩
      · (refine rn (And.intro @h0 @hkk) ?_; try with_reducible exact True.intro)
        exact ⟨⟨j, c5, x, hok, hf, by omega⟩, by dsimp only; omega, (gc [0, 1])⟩
    · have y0' : ¬ (y : Int) = 0 := by omega
      have y1' : ¬ (y : Int) = 1 := by omega
      refine rn (And.intro @y0' @y1') ?_
      have ha := @app_st x (noteE r) hok
      refine vc_pure (rappend_v x hx9 (noteE r)) rfl ?_
      generalize appS x (noteE r) = q at *
      obtain ⟨x', n', st⟩ := q
      dsimp only at ha
      refine rn trivial ?_
      by_cases h0 : st = 0
      · obtain ⟨a1, a2, a3⟩ := ha h0
        refine rn (And.intro @h0 @hkk) ?_
        exact ⟨⟨j, c4, x', a1, a2.trans hf, by omega⟩, by dsimp only; omega, (gc [0, 1])⟩
      · (refine rn (And.intro @h0 @hkk) ?_; try with_reducible exact True.intro)
        exact ⟨⟨j, c4, x, hok, hf, by omega⟩, by dsimp only; omega, (gc [0, 1])⟩
  · obtain rfl : k = 0 := by omega
    refine rn trivial ?_
    have c1 := latest_v x hx9
    have c2' := rlatest_v x hx9
    have hsm := latS_sm x
    generalize latS x = q at c1 c2' hsm
    obtain ⟨a, n, o⟩ := q
    dsimp only at hsm
    have hs := same_v a a hsm hsm
    rw [decide_eq_true rfl] at hs
    refine vc_pure c1 rfl ?_
    refine rn trivial ?_
    refine vc_pure c2' rfl ?_
    have hnn : (n != n) = false := by simp
    have hno : (o != o) = false := by simp
    refine rn (And.intro @hnn @hno) ?_
    refine vc_pure hs rfl ?_
    refine rn trivial ?_
    refine vc_cx (k := 0) (c := c2) (rdraw_v c2) rfl rfl ?_
    rintro _ c3 ⟨r, rfl, hr⟩
    refine rn trivial ?_
    have hv := qvalid_v r hr.sm
    by_cases hB : r.okB = true
    rotate_left
    · have hB' : r.okB = false := by simpa using hB
      rw [hB'] at hv
      refine vc_pure hv rfl ?_
      (refine rn trivial ?_; try with_reducible exact True.intro)
    rw [hB] at hv
    obtain ⟨e1, e2⟩ := app_note hok hf (by omega) hB
    have k1 := rappend_v x hx9 (noteE r)
    rw [e1] at k1
    have k2 := latest_v ⟨x.f, x.es ++ [{ noteE r with lsn := x.end_ + 1 }], x.d⟩ (by simp; omega)
    rw [e2] at k2
    have k3 := same_v r r hr.sm hr.sm
    rw [decide_eq_true rfl] at k3
    clear e1 e2
    generalize x.es ++ [{ noteE r with lsn := x.end_ + 1 }] = es' at k1 k2
    generalize x.end_ + 1 = m at k1 k2
    have hmm : (m == m) = true := by simp
    simp only [Lg.c] at k2
    refine vc_pure hv rfl ?_
    refine rn trivial ?_
    refine vdraw (by kernel_rfl) (by kernel_rfl) ?_
    refine rn trivial ?_
    refine vdc_call (note_v r hr.sm) rfl rfl ?_
    refine rn trivial ?_
    refine vdc_call k1 rfl rfl ?_
    refine rn trivial ?_
    refine ⟨rfl, ?_⟩
    refine vc_pure k2 rfl ?_
    refine rn @hmm ?_
    refine vc_pure k3 rfl ?_
    (refine rn @hmm ?_; try with_reducible exact True.intro)
end Go.Proofs.Ytnilcppifcekmaa
