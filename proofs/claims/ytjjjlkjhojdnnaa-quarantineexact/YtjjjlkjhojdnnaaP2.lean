/-
  Contracts of functions of the program and of the statements, and plain laws. No condition.
-/
import Derived.Test.YtjjjlkjhojdnnaaP1
import Derived.Test.YtjjjlkjhojdnnaaV3
namespace Go.Proofs.Ytjjjlkjhojdnnaa
open Go.V Go
set_option maxRecDepth 100000
set_option linter.unusedSimpArgs false

theorem freeN_succ (r : Rm) (k : Nat) : r.freeN (k + 1) = r.freeN k ++ (if r.pages + (k : Int) ∈ r.places.map (·.ad) ∨ r.pages + (k : Int) ∈ r.bad then [] else [r.pages + (k : Int)]) := by
  rw [Rm.freeN, List.range_succ, List.map_append, List.filter_append]
  congr 1
  by_cases h1 : r.pages + (k : Int) ∈ r.places.map (·.ad) <;> by_cases h2 : r.pages + (k : Int) ∈ r.bad <;> simp only [h1, h2, decide_true, decide_false, Bool.not_true, Bool.not_false, Bool.false_and, Bool.and_false, Bool.and_true, or_true, true_or, or_self, reduceIte, List.map_cons, List.map_nil, List.filter_cons, List.filter_nil, Bool.false_eq_true]
theorem freeN_len (r : Rm) (k : Nat) : (r.freeN k).length ≤ k := by
  have := List.length_filter_le (fun x => !decide (x ∈ r.places.map (·.ad)) && !decide (x ∈ r.bad)) ((List.range k).map fun k : Nat => r.pages + (k : Int))
  rw [List.length_map, List.length_range] at this
  exact this

set_option maxHeartbeats 2000000 in
theorem free_v (r : Rm) (h : r.Ok) (hs : r.sm) : VCalls Try.prog 40 [.agg r.d] [] (Ret (.pv (.sl (fz encI r.freeS)))) := by
  refine vcalls_drop (fn := Try.f40) Try.func40 rfl (by kernel_rfl) (by simp [Try.f40]) ?_
  obtain ⟨hs1, hs2⟩ := hs
  have hbc := bad_v r hs2 h.basc
  have p1 := h.p1
  have p2 := h.p2
  have q1 := h.s1
  have q2 := h.s2
  have q3 := h.s3
  simp (config := { maxSteps := 2000000 }) (implicitDefEqProofs := false) (disch := first | omega | assumption | (simp only []; done) | fail) only [vop_move, vcallee_move, vop_assign, vcallee_assign, vop_alloc, vcallee_alloc, vop_box, vcallee_box, vop_load, vcallee_load, vop_fieldAddr, vcallee_fieldAddr, vop_builtin, vcallee_builtin, strip_pv, strip_ptr, strip_agg, optV_none, ev_tmp, ev_const, ofConst_int, ofConst_slice, put_some, at_mk, fits_some, ↓look_cons, ↓vlook_t, ↓vlook_f, guard_none, ↓vrun_nil, ↓code_region, ↓code_seq, ↓code_block, ↓code_loop, ↓onNormal_normal, load_ptr, vld_one, blk_zero, box_eq, alloc_eq, val1_some, allOne_nil, allOne_cons, one_pv, faddr_ptr, vfap_some, len_sl, vlk_sl, bi_len, enum_nil, enum_cons, evG_eq, ↓vrun_cons, ↓run1_some, ↓runG_true, ↓run2_none, ↓run3_some, at_hp, List.map_nil, dcells, List.toList_toArray, List.getElem?_cons_zero, List.getElem?_cons_succ, List.length_cons, List.length_nil, List.map_cons, List.map_nil, List.cons_append, List.nil_append, Option.map_some, ↓reduceIte, reduceCtorEq, Nat.reduceLT, Nat.reduceBEq, Int.reduceLT, Int.reduceBEq, Nat.zero_add, true_and, and_self, Bool.true_and, Bool.and_self, beq_self_eq_true, fz_len, Try.vt26, Try.vkind26, Try.vfield29x2, Try.vzero75, dec_t, Try.f40, Rm.d]
  refine vloopW (fun s : {i : Nat // i ≤ r.places.length} => ⟨45, 0, [(11, .int .i64 s.1), (10, .int .i64 r.places.length), (9, .pv (.sl (fz encP r.places))), (3, .ptr 1 0), (1, .ptr 0 0)], [⟨29, true, r.d⟩, ⟨75, true, cells encB (usedL ((r.places.take s.1).map (·.ad)))⟩]⟩) (fun s => r.places.length - s.1) ⟨0, by omega⟩ (.inl (by refine ⟨rfl, rfl, by simp, ?_, ?_, .inr ⟨?_, ?_⟩⟩ <;> (repeat' apply And.intro) <;> first | rfl | trivial | (intro _; first | rfl | apply cells_refs))) ?_
  rintro ⟨i, hi⟩
  dsimp only
  simp (config := { maxSteps := 2000000 }) (implicitDefEqProofs := false) (disch := first | omega | assumption | (simp only []; done) | fail) only [vop_binOp, vcallee_binOp, bin2_tmp, strip_pv, optV_none, ev_tmp, put_some, at_mk, fits_some, ↓look_cons, ↓vlook_t, ↓vlook_f, guard_none, ↓vrun_nil, ↓code_region, ↓code_seq, ↓onNormal_normal, bin_int, int_lss, evG_eq, ↓vrun_cons, ↓run1_some, ↓runG_true, ↓run2_none, ↓run3_some, ↓code_cond, ↓vtest_bool, Option.map_some, Nat.reduceLT, Nat.reduceBEq, Int.reduceLT, Int.reduceBEq, true_and, Bool.true_and, beq_self_eq_true, dec_t, Rm.d]
  refine vbr_split (fun hc => ?_) (fun hc => ?_) <;> simp only [decide_eq_true_eq, decide_eq_false_iff_not, Bool.or_eq_true, Bool.and_eq_true, Bool.or_eq_false_iff, Bool.and_eq_false_imp, Bool.not_eq_true', Bool.not_eq_false', beq_iff_eq, beq_eq_false_iff_ne, bne_iff_ne, bne_eq_false_iff_eq, ne_eq] at hc
  · have hlt : i < r.places.length := by omega
    have hg : (fz encP r.places)[i]? = some [.lit (.int .i64 r.places[i].pg), .lit (.int .i64 r.places[i].ad)] := fz_at encP r.places i hlt
    have htk := take_succ_map r.places i hlt
    rw [getD_eq _ _ hlt] at htk
    obtain ⟨_, _, _, c4, c5, _⟩ := h.prng _ (List.getElem_mem hlt)
    generalize r.places[i] = p at *
    have hus := usedL_set ((r.places.take i).map (·.ad)) p.ad.toNat
    rw [show ((p.ad.toNat : Nat) : Int) = p.ad by omega] at hus
    have hadn : p.ad.toNat < 64 := by omega
    simp (config := { maxSteps := 2000000 }) (implicitDefEqProofs := false) (disch := first | omega | assumption | (simp only [List.length_cons, List.length_nil, Nat.zero_add, Nat.reduceAdd]; done) | fail) only [vop_move, vcallee_move, vop_alloc, vcallee_alloc, vop_load, vcallee_load, vop_store, vcallee_store, vop_binOp, vcallee_binOp, vop_fieldAddr, vcallee_fieldAddr, vop_indexAddr, vcallee_indexAddr, bin2_int, strip_pv, strip_ptr, strip_ip, strip_agg, optV_none, ev_tmp, ev_const, ofConst_int, ofConst_bool, put_some, put_none, at_mk, fits_some, fits_none, ↓look_cons, ↓vlook_t, ↓vlook_f, guard_none, ↓vrun_nil, ↓code_skip, ↓code_region, ↓code_seq, ↓code_block, ↓onNormal_normal, ↓onBlock_normal, load_ptr, load_ip, vld_one, vldp_agg, store_ptr, vst_one, vst_agg, blk_zero, blk_succ, set_zero, set_succ, alloc_eq, val1_some, allOne_nil, allOne_cons, one_pv, faddr_ptr, vfap_some, iaddr_sl, vias_some, iaddr_ptr, viap_some, bin_int, int_add, evG_eq, ↓vrun_cons, ↓run1_some, ↓runG_true, ↓run2_none, ↓run3_some, at_hp, List.map_nil, V.splice, List.getElem?_cons_zero, List.getElem?_cons_succ, List.length_cons, List.length_nil, List.map_cons, List.map_nil, List.cons_append, List.nil_append, List.append_nil, List.take_succ_cons, List.take_zero, List.take_nil, List.drop_succ_cons, List.drop_nil, Option.map_some, ↓reduceIte, reduceCtorEq, Nat.reduceAdd, Nat.reduceLT, Nat.reduceBEq, Int.reduceLT, Int.reduceAdd, Int.reduceBEq, Int.toNat_natCast, Nat.zero_add, Nat.mul_one, true_and, and_self, Bool.true_and, Bool.and_self, beq_self_eq_true, Nat.le_refl, cellsB_len, Try.vt3, Try.vt4, Try.velem26, Try.vt73, Try.vfield73x1, Try.vzero73, Try.velem75, wrap_i64_in, dec_t, hg, cellsB_len, usedL_len, hadn, hus]
    refine ⟨⟨i + 1, by omega⟩, by show r.places.length - (i + 1) < r.places.length - i; omega, ?_⟩
    dsimp only
    rw [htk]
    exact (by refine gc_of (keep := [0, 1]) rfl rfl rfl (by decide) ?_ ?_ <;> (repeat' apply And.intro) <;> first | trivial | rfl | exact ⟨_, rfl, rfl, rfl, .inl ⟨rfl, rfl⟩⟩ | exact ⟨_, rfl, rfl, rfl, .inl ⟨cells_nums _ _ _, rfl⟩⟩ | exact ⟨_, rfl, rfl, rfl, .inl ⟨pvs_nums _ _, rfl⟩⟩ | exact ⟨_, rfl, rfl, rfl, .inr ⟨rfl, rfl⟩⟩)
  · have hil : i = r.places.length := by omega
    subst hil
    rw [List.take_length]
    obtain ⟨n, hn⟩ : ∃ n : Nat, r.spares = n := ⟨r.spares.toNat, by omega⟩
    simp (config := { maxSteps := 2000000 }) (implicitDefEqProofs := false) (disch := first | omega | assumption | (simp only []; done) | fail) only [vop_assign, vcallee_assign, vop_load, vcallee_load, vop_fieldAddr, vcallee_fieldAddr, strip_pv, strip_ptr, optV_none, ev_tmp, ev_const, ofConst_slice, put_some, at_mk, fits_some, ↓look_cons, ↓vlook_t, ↓vlook_f, guard_none, ↓vrun_nil, ↓code_region, ↓code_seq, ↓code_block, ↓code_loop, ↓code_exit, ↓onNormal_normal, ↓onNormal_exit, ↓onBlock_exit, load_ptr, vld_one, blk_zero, faddr_ptr, vfap_some, evG_eq, ↓vrun_cons, ↓run1_some, ↓runG_true, ↓run2_none, ↓run3_some, at_hp, List.getElem?_cons_zero, Option.map_some, ↓reduceIte, reduceCtorEq, Nat.reduceLT, Nat.reduceBEq, Int.reduceLT, Int.reduceBEq, Nat.add_zero, true_and, Bool.true_and, beq_self_eq_true, Try.vt3, Try.vfield29x0, dec_t, dec_f]
    refine VLoop.nilOwn 6 3 1 rfl ?_
    refine vloopW (fun s : {k : Nat // k ≤ n} => ⟨45, 0, [(7, .int .i64 (r.pages + (s.1 : Int))), (6, .own 2 1 0 (r.freeN s.1).length), (3, .ptr 1 0), (1, .ptr 0 0)], [⟨29, true, r.d⟩, ⟨75, true, cells encB (usedL (r.places.map (·.ad)))⟩, ⟨3, true, cells encI (r.freeN s.1)⟩]⟩) (fun s => n - s.1) ⟨0, by omega⟩ (.inl ?_) ?_
    · dsimp only
      rw [show r.pages + ((0 : Nat) : Int) = r.pages by omega]
      exact (by refine ⟨rfl, rfl, by simp, ?_, ?_, .inr ⟨?_, ?_⟩⟩ <;> (repeat' apply And.intro) <;> first | rfl | trivial | (intro _; first | rfl | apply cells_refs))
    rintro ⟨k, hk⟩
    dsimp only
    have hfl := freeN_len r k
    simp (config := { maxSteps := 2000000 }) (implicitDefEqProofs := false) (disch := first | omega | assumption | (simp only []; done) | fail) only [vop_move, vcallee_move, vop_load, vcallee_load, vop_binOp, vcallee_binOp, vop_fieldAddr, vcallee_fieldAddr, bin2_tmp, strip_pv, strip_ptr, optV_none, ev_tmp, put_some, at_mk, fits_some, ↓look_cons, ↓vlook_t, ↓vlook_f, guard_none, ↓vrun_nil, ↓code_region, ↓code_seq, ↓onNormal_normal, load_ptr, vld_one, blk_zero, faddr_ptr, vfap_some, bin_int, int_add, int_lss, evG_eq, ↓vrun_cons, ↓run1_some, ↓runG_true, ↓run2_none, ↓run3_some, ↓code_cond, ↓vtest_bool, at_hp, List.getElem?_cons_zero, List.getElem?_cons_succ, Option.map_some, ↓reduceIte, reduceCtorEq, Nat.reduceLT, Nat.reduceBEq, Int.reduceLT, Int.reduceBEq, Nat.zero_add, Nat.add_zero, true_and, Bool.true_and, beq_self_eq_true, Try.vt3, Try.vfield29x0, Try.vfield29x1, wrap_i64_in, dec_t, Rm.d, hn]
    refine vbr_split (fun hc2 => ?_) (fun hc2 => ?_) <;> simp only [decide_eq_true_eq, decide_eq_false_iff_not, Bool.or_eq_true, Bool.and_eq_true, Bool.or_eq_false_iff, Bool.and_eq_false_imp, Bool.not_eq_true', Bool.not_eq_false', beq_iff_eq, beq_eq_false_iff_ne, bne_iff_ne, bne_eq_false_iff_eq, ne_eq] at hc2
    · have hkn : k < n := by omega
      have hug := usedL_get (r.places.map (·.ad)) (r.pages + (k : Int)).toNat (by omega)
      rw [show (((r.pages + (k : Int)).toNat : Nat) : Int) = r.pages + k by omega] at hug
      have hb := hbc (r.pages + (k : Int))
      rw [Rm.d, hn] at hb
      have hsu := freeN_succ r k
      by_cases d1 : r.pages + (k : Int) ∈ r.places.map (·.ad)
      · rw [if_pos (.inl d1), List.append_nil] at hsu
        simp (config := { maxSteps := 2000000 }) (implicitDefEqProofs := false) (disch := first | omega | assumption | (simp only []; done) | fail) only [vop_move, vcallee_move, vop_assign, vcallee_assign, vop_pick, vcallee_pick, vop_load, vcallee_load, vop_binOp, vcallee_binOp, vop_unOp, vcallee_unOp, vop_indexAddr, vcallee_indexAddr, bin2_int, vpick_bool, strip_pv, strip_ptr, strip_tup, optV_none, ev_tmp, ev_const, ofConst_int, ofConst_bool, put_some, at_mk, fits_some, ↓look_cons, ↓vlook_t, ↓vlook_f, guard_none, guard_some, vgof_bool, ↓vrun_nil, ↓code_skip, ↓code_region, ↓code_seq, ↓code_block, ↓onNormal_normal, ↓onBlock_normal, load_ptr, vld_one, blk_zero, blk_succ, iaddr_ptr, viap_some, bin_int, int_add, un_not, evG_eq, ↓vrun_cons, ↓run1_some, ↓runG_true, ↓runG_false, ↓run2_none, ↓run3_some, ↓code_cond, ↓vtest_bool, ↓vbr_false, at_hp, pickV_f, List.getElem?_cons_zero, List.getElem?_cons_succ, Option.map_some, Option.bind_some, Nat.reduceLT, Nat.reduceBEq, Int.reduceLT, Int.reduceBEq, Nat.zero_add, Nat.mul_one, true_and, Bool.not_true, Bool.not_false, Bool.true_and, b_beq_t, beq_self_eq_true, Try.vt4, Try.velem75, wrap_i64_in, dec_t, hug, d1]
        refine ⟨⟨k + 1, by omega⟩, by show n - (k + 1) < n - k; omega, .inl ?_⟩
        dsimp only
        rw [hsu, show r.pages + ((k + 1 : Nat) : Int) = r.pages + (k : Int) + 1 by omega]
        exact (by refine ⟨rfl, rfl, by simp, ?_, ?_, .inr ⟨?_, ?_⟩⟩ <;> (repeat' apply And.intro) <;> first | rfl | trivial | (intro _; first | rfl | apply cells_refs))
      · by_cases d2 : r.pages + (k : Int) ∈ r.bad
        · rw [if_pos (.inr d2), List.append_nil] at hsu
          simp (config := { maxSteps := 2000000 }) (implicitDefEqProofs := false) (disch := first | omega | assumption | (simp only []; done) | fail) only [vop_move, vcallee_move, vop_load, vcallee_load, vop_unOp, vcallee_unOp, vop_indexAddr, vcallee_indexAddr, vcallee_value, vcal_fn, strip_pv, strip_ptr, strip_fn, strip_opt, vstr_true, optV_none, optV_some, ev_tmp, ev_func, put_some, at_mk, fits_some, ↓look_cons, ↓vlook_t, ↓vlook_f, guard_none, guard_some, vgof_bool, ↓code_skip, ↓code_region, ↓code_seq, ↓code_block, ↓onNormal_normal, load_ptr, vld_one, vld_agg, blk_zero, blk_succ, iaddr_ptr, viap_some, un_not, evG_eq, ↓vrun_cons, ↓run1_some, ↓runG_true, ↓run2_none, ↓run2_some, ↓run3_some, at_hp, List.map_nil, List.getElem?_cons_zero, List.getElem?_cons_succ, List.length_cons, List.length_nil, List.map_cons, List.map_nil, List.nil_append, List.append_nil, List.take_succ_cons, List.take_nil, List.drop_zero, Option.map_some, Option.bind_some, ↓reduceIte, Nat.reduceAdd, Nat.reduceLT, Nat.reduceBEq, Int.reduceLT, Int.reduceAdd, Int.reduceBEq, Nat.zero_add, Nat.mul_one, decide_false, true_and, or_true, Bool.not_true, Bool.not_false, Bool.or_true, Bool.true_and, beq_self_eq_true, Nat.le_refl, Try.vt4, Try.vt29, Try.velem75, dec_t, hug, d1]
          refine vc_pure (hb) rfl ?_
          simp (config := { maxSteps := 2000000 }) (implicitDefEqProofs := false) (disch := first | omega | assumption | (simp only []; done) | fail) only [vop_move, vcallee_move, vop_assign, vcallee_assign, vop_pick, vcallee_pick, vop_binOp, vcallee_binOp, vop_unOp, vcallee_unOp, bin2_int, vpick_bool, strip_pv, strip_opt, vstr_true, optV_none, optV_some, pickV_bool, ev_tmp, ev_const, ofConst_int, ofConst_bool, put_some, at_mk, fits_some, ↓look_cons, ↓vlook_t, ↓vlook_f, guard_none, guard_some, vgof_bool, ↓vrun_nil, ↓code_skip, ↓code_region, ↓onNormal_normal, ↓onBlock_normal, bin_int, int_add, un_not, evG_eq, ↓vrun_cons, ↓run1_some, ↓runG_true, ↓run2_none, ↓run3_some, ↓runK_eq, ↓code_cond, ↓vtest_bool, ↓vbr_false, at_hp, List.getElem?_cons_zero, List.getElem?_cons_succ, Option.map_some, Option.bind_some, Nat.reduceLT, Nat.reduceBEq, Int.reduceLT, Int.reduceBEq, true_and, or_true, Bool.not_true, Bool.or_true, Bool.true_and, Bool.cond_self, beq_self_eq_true, wrap_i64_in, dec_t, d2]
          refine ⟨⟨k + 1, by omega⟩, by show n - (k + 1) < n - k; omega, .inl ?_⟩
          dsimp only
          rw [hsu, show r.pages + ((k + 1 : Nat) : Int) = r.pages + (k : Int) + 1 by omega]
          exact (by refine ⟨rfl, rfl, by simp, ?_, ?_, .inr ⟨?_, ?_⟩⟩ <;> (repeat' apply And.intro) <;> first | rfl | trivial | (intro _; first | rfl | apply cells_refs))
        · rw [if_neg (by simp only [d1, d2, or_self, not_false_eq_true])] at hsu
          have hb8 : ((r.freeN k).length + 1) * 8 ≤ 140737488355328 := by omega
          have ht : (cells encI (r.freeN k)).take (r.freeN k).length = cells encI (r.freeN k) := cells_all encI _ _ (by show _ = _ * 1; omega)
          have ha : (cells encI (r.freeN k) ++ [.pv (.lit (.int .i64 (r.pages + (k : Int))))] : List DV) = cells encI (r.freeN (k + 1)) := by rw [hsu]; exact (cells_app encI _ [r.pages + (k : Int)]).symm
          have hl1 : (r.freeN (k + 1)).length = (r.freeN k).length + 1 := by rw [hsu, List.length_append]; rfl
          simp (config := { maxSteps := 2000000 }) (implicitDefEqProofs := false) (disch := first | omega | assumption | (simp only []; done) | fail) only [vop_move, vcallee_move, vop_load, vcallee_load, vop_unOp, vcallee_unOp, vop_indexAddr, vcallee_indexAddr, vcallee_value, vcal_fn, strip_pv, strip_ptr, strip_fn, strip_opt, vstr_true, optV_none, optV_some, ev_tmp, ev_func, put_some, at_mk, fits_some, ↓look_cons, ↓vlook_t, ↓vlook_f, guard_none, guard_some, vgof_bool, ↓code_skip, ↓code_region, ↓code_seq, ↓code_block, ↓onNormal_normal, load_ptr, vld_one, vld_agg, blk_zero, blk_succ, iaddr_ptr, viap_some, un_not, evG_eq, ↓vrun_cons, ↓run1_some, ↓runG_true, ↓run2_none, ↓run2_some, ↓run3_some, at_hp, List.map_nil, List.getElem?_cons_zero, List.getElem?_cons_succ, List.length_cons, List.length_nil, List.map_cons, List.map_nil, List.nil_append, List.append_nil, List.take_succ_cons, List.take_nil, List.drop_zero, Option.map_some, Option.bind_some, ↓reduceIte, Nat.reduceAdd, Nat.reduceLT, Nat.reduceBEq, Int.reduceLT, Int.reduceAdd, Int.reduceBEq, Nat.zero_add, Nat.mul_one, decide_false, true_and, or_true, Bool.not_true, Bool.not_false, Bool.or_true, Bool.true_and, beq_self_eq_true, Nat.le_refl, Try.vt4, Try.vt29, Try.velem75, dec_t, hug, d1]
          refine vc_pure (hb) rfl ?_
          simp (config := { maxSteps := 2000000 }) (implicitDefEqProofs := false) (disch := first | omega | assumption | (simp only []; done) | fail) only [vop_move, vcallee_move, vop_assign, vcallee_assign, vop_pick, vcallee_pick, vop_buildSlice, vcallee_buildSlice, vop_binOp, vcallee_binOp, vop_unOp, vcallee_unOp, vop_builtin, vcallee_builtin, bin2_int, vpick_bool, strip_pv, strip_own, strip_opt, vstr_true, optV_none, optV_some, pickV_bool, ev_tmp, ev_const, ofConst_int, ofConst_bool, put_some, at_mk, fits_some, ↓look_cons, ↓vlook_t, ↓vlook_f, guard_none, guard_some, vgof_bool, ↓vrun_nil, ↓code_region, ↓onNormal_normal, ↓onBlock_normal, blk_zero, blk_succ, allOne_nil, allOne_cons, one_pv, bin_int, int_add, un_not, bi_append, ap2_own, parts_nil, parts_cons, evG_eq, ↓vrun_cons, ↓run1_some, ↓runG_true, ↓run2_none, ↓run3_some, ↓runK_eq, ↓code_cond, ↓vtest_bool, ↓vbr_true, at_hp, List.map_nil, dcells, vfill, vbuildSlice, V.mk, vsrc, vbase, vappend, V.kill, V.splice, List.getElem?_cons_zero, List.getElem?_cons_succ, List.length_cons, List.length_nil, List.map_cons, List.map_nil, List.cons_append, List.nil_append, List.append_nil, List.take_succ_cons, List.take_zero, List.take_nil, List.drop_succ_cons, List.drop_zero, List.drop_nil, List.set_cons_zero, List.set_cons_succ, Option.map_some, Option.bind_some, ↓reduceIte, Nat.reduceAdd, Nat.reduceLT, Nat.reduceLeDiff, Nat.reduceBEq, Int.reduceLT, Int.reduceAdd, Int.reduceBEq, Nat.zero_add, Nat.mul_one, decide_false, true_and, and_self, or_true, Bool.not_true, Bool.not_false, Bool.or_true, Bool.true_and, Bool.and_self, cond_true, beq_self_eq_true, Nat.le_refl, cellsI_len, Try.vzero3, Try.bytes3, Try.velem27, Try.notInt27, wrap_i64_in, dec_t, d2, cellsI_len, hb8, ht, ha]
          refine ⟨⟨k + 1, by omega⟩, by show n - (k + 1) < n - k; omega, ?_⟩
          dsimp only
          rw [hl1, show r.pages + ((k + 1 : Nat) : Int) = r.pages + (k : Int) + 1 by omega]
          exact (by refine gc_of (keep := [0, 1, 4]) rfl rfl rfl (by decide) ?_ ?_ <;> (repeat' apply And.intro) <;> first | trivial | rfl | exact ⟨_, rfl, rfl, rfl, .inl ⟨rfl, rfl⟩⟩ | exact ⟨_, rfl, rfl, rfl, .inl ⟨cells_nums _ _ _, rfl⟩⟩ | exact ⟨_, rfl, rfl, rfl, .inl ⟨pvs_nums _ _, rfl⟩⟩ | exact ⟨_, rfl, rfl, rfl, .inr ⟨rfl, rfl⟩⟩)
    · have hkn : k = n := by omega
      subst hkn
      have hfs : r.freeS = r.freeN k := by rw [Rm.freeS, hn]; rfl
      rw [hfs]
      simp (config := { maxSteps := 2000000 }) (implicitDefEqProofs := false) (disch := first | omega | assumption | (simp only []; done) | fail) only [vop_move, vcallee_move, vop_assign, vcallee_assign, strip_own, optV_none, ev_tmp, put_some, at_mk, fits_some, ↓look_cons, ↓vlook_t, ↓vlook_f, guard_none, ↓vrun_nil, ↓code_region, ↓code_seq, ↓code_exit, ↓code_ret, ↓onNormal_normal, ↓onNormal_exit, ↓onBlock_exit, frz_own, frz1_own, frzHeap_zero, res_one, vres_tmp, blk_zero, blk_succ, evG_eq, ↓vrun_cons, ↓run1_some, ↓runG_true, ↓run2_none, ↓run3_some, ↓vpost_ret, vfin_some, vfin2_some, at_hp, Option.map_some, ↓reduceIte, Nat.reduceLT, Nat.reduceBEq, Int.reduceLT, Int.reduceBEq, and_self, Bool.and_self, beq_self_eq_true, frzP_own, dec_t, dec_f, Ret, DV.nums, frzC_I rfl]
theorem left_v (r : Rm) (hs : r.sm) : VCalls Try.prog 17 [.agg r.d] [] (Ret (.int .i64 (if r.okB = true then r.freeS.length else 0 : Nat))) := by
  refine vcalls_drop (fn := Try.f17) Try.func17 rfl (by kernel_rfl) (by simp [Try.f17]) ?_
  have hv := valid_v r hs
  by_cases ho : r.okB = true
  · rw [ho] at hv
    rw [if_pos ho]
    simp (config := { maxSteps := 2000000 }) (implicitDefEqProofs := false) (disch := first | omega | assumption | (simp only []; done) | fail) only [vop_assign, vcallee_assign, vop_box, vcallee_box, vop_load, vcallee_load, vcallee_value, vcal_fn, strip_pv, strip_ptr, strip_agg, strip_fn, optV_none, ev_tmp, ev_const, ev_func, ofConst_int, put_some, at_mk, fits_some, ↓look_cons, ↓vlook_t, ↓vlook_f, guard_none, ↓vrun_nil, ↓code_region, ↓code_seq, ↓onNormal_normal, load_ptr, vld_agg, blk_zero, box_eq, allOne_nil, allOne_cons, one_pv, enum_nil, enum_cons, evG_eq, ↓vrun_cons, ↓run1_some, ↓runG_true, ↓run2_none, ↓run2_some, ↓run3_some, at_hp, List.map_nil, dcells, List.toList_toArray, List.length_cons, List.length_nil, List.map_cons, List.map_nil, List.nil_append, List.append_nil, List.take_succ_cons, List.take_nil, List.drop_zero, Option.map_some, ↓reduceIte, Nat.reduceAdd, Nat.reduceLT, Nat.reduceBEq, Int.reduceLT, Int.reduceAdd, Int.reduceBEq, Nat.zero_add, true_and, and_self, Bool.true_and, Bool.and_self, beq_self_eq_true, Nat.le_refl, Try.vt29, dec_t, Try.f17, Rm.d]
    refine vc_pure hv rfl ?_
    simp (config := { maxSteps := 2000000 }) (implicitDefEqProofs := false) (disch := first | omega | assumption | (simp only []; done) | fail) only [vop_load, vcallee_load, vop_unOp, vcallee_unOp, vcallee_value, vcal_fn, strip_pv, strip_ptr, strip_agg, strip_fn, optV_none, ev_tmp, ev_func, put_some, at_mk, fits_some, ↓look_cons, ↓vlook_t, ↓vlook_f, guard_none, ↓vrun_nil, ↓code_skip, ↓code_region, ↓code_seq, ↓onNormal_normal, load_ptr, vld_agg, blk_zero, un_not, evG_eq, ↓vrun_cons, ↓run1_some, ↓runG_true, ↓run2_none, ↓run2_some, ↓run3_some, ↓runK_eq, ↓code_cond, ↓vtest_bool, ↓vbr_false, at_hp, List.map_nil, List.length_cons, List.length_nil, List.map_cons, List.map_nil, List.nil_append, List.append_nil, List.take_succ_cons, List.take_nil, List.drop_zero, Option.map_some, ↓reduceIte, Nat.reduceAdd, Nat.reduceLT, Nat.reduceBEq, Int.reduceLT, Int.reduceAdd, Int.reduceBEq, Nat.zero_add, true_and, Bool.not_true, Bool.true_and, beq_self_eq_true, Nat.le_refl, Try.vt29, dec_t]
    refine vc_pure (free_v r ((ok_iff r).1 ho) hs) rfl ?_
    simp (config := { maxSteps := 2000000 }) (implicitDefEqProofs := false) (disch := first | omega | assumption | (simp only []; done) | fail) only [vop_assign, vcallee_assign, vop_builtin, vcallee_builtin, strip_pv, optV_none, ev_tmp, put_some, at_mk, fits_some, ↓look_cons, ↓vlook_t, guard_none, ↓vrun_nil, ↓code_ret, ↓onNormal_normal, frz_pv, frzHeap_zero, res_one, vres_tmp, len_sl, vlk_sl, bi_len, evG_eq, ↓vrun_cons, ↓run1_some, ↓runG_true, ↓run2_none, ↓run3_some, ↓runK_eq, ↓vpost_ret, vfin_some, vfin2_some, at_hp, List.map_nil, List.map_cons, List.map_nil, Option.map_some, Nat.reduceLT, Int.reduceLT, and_self, Bool.and_self, beq_self_eq_true, fz_len, Try.vkind27, dec_t, Ret, DV.nums]
  · have ho' : r.okB = false := by simpa using ho
    rw [ho'] at hv
    rw [if_neg ho]
    simp (config := { maxSteps := 2000000 }) (implicitDefEqProofs := false) (disch := first | omega | assumption | (simp only []; done) | fail) only [vop_assign, vcallee_assign, vop_box, vcallee_box, vop_load, vcallee_load, vcallee_value, vcal_fn, strip_pv, strip_ptr, strip_agg, strip_fn, optV_none, ev_tmp, ev_const, ev_func, ofConst_int, put_some, at_mk, fits_some, ↓look_cons, ↓vlook_t, ↓vlook_f, guard_none, ↓vrun_nil, ↓code_region, ↓code_seq, ↓onNormal_normal, load_ptr, vld_agg, blk_zero, box_eq, allOne_nil, allOne_cons, one_pv, enum_nil, enum_cons, evG_eq, ↓vrun_cons, ↓run1_some, ↓runG_true, ↓run2_none, ↓run2_some, ↓run3_some, at_hp, List.map_nil, dcells, List.toList_toArray, List.length_cons, List.length_nil, List.map_cons, List.map_nil, List.nil_append, List.append_nil, List.take_succ_cons, List.take_nil, List.drop_zero, Option.map_some, ↓reduceIte, Nat.reduceAdd, Nat.reduceLT, Nat.reduceBEq, Int.reduceLT, Int.reduceAdd, Int.reduceBEq, Nat.zero_add, true_and, and_self, Bool.true_and, Bool.and_self, beq_self_eq_true, Nat.le_refl, Try.vt29, dec_t, Try.f17, Rm.d]
    refine vc_pure hv rfl ?_
    simp (config := { maxSteps := 2000000 }) (implicitDefEqProofs := false) (disch := first | omega | assumption | (simp only []; done) | fail) only [vop_assign, vcallee_assign, vop_unOp, vcallee_unOp, strip_pv, optV_none, ev_tmp, ev_const, ofConst_int, put_some, at_mk, fits_some, ↓look_cons, ↓vlook_t, guard_none, ↓vrun_nil, ↓code_region, ↓code_seq, ↓code_ret, ↓onNormal_normal, ↓onNormal_ret, frz_pv, frzHeap_zero, res_one, vres_tmp, un_not, evG_eq, ↓vrun_cons, ↓run1_some, ↓runG_true, ↓run2_none, ↓run3_some, ↓runK_eq, ↓code_cond, ↓vtest_bool, ↓vbr_true, ↓vpost_ret, vfin_some, vfin2_some, at_hp, Option.map_some, Nat.reduceLT, Int.reduceLT, true_and, Bool.not_false, Bool.true_and, beq_self_eq_true, dec_t, Ret, DV.nums]
    rfl
end Go.Proofs.Ytjjjlkjhojdnnaa

namespace Go.Proofs.Ytjjjlkjhojdnnaa
open Go.V Go
set_option maxRecDepth 100000
set_option linter.unusedSimpArgs false

def Rm0 : Rm := ⟨0, 0, [], []⟩
def insB (l : List Int) (a : Int) : List Int := l.take (lo l fun x => decide (x < a)) ++ a :: l.drop (lo l fun x => decide (x < a))
def setP (l : List Pl) (n f : Int) : List Pl := if pfound l n = true then l.set (plo l n) ⟨n, f⟩ else l.take (plo l n) ++ ⟨n, f⟩ :: l.drop (plo l n)
def remD (r : Rm) (p e : Int) : DV := .tup [.agg r.d, .int .i64 p, .int .i64 e]
/-- What Mark answers. -/
def Rm.markS (r : Rm) (a : Int) : Rm × Int × Int :=
  if r.okB = true then
    if a < 0 ∨ r.pages + r.spares ≤ a then (Rm0, 0, 1)
    else if a ∈ r.bad then (r, -1, 0)
    else match r.ownerS a with
      | none => ({ r with bad := insB r.bad a }, -1, 0)
      | some n => match r.freeS with
        | [] => (Rm0, 0, 47)
        | f :: _ => (⟨r.pages, r.spares, setP r.places n f, insB r.bad a⟩, n, 0)
  else (Rm0, 0, 48)
theorem insB_len (l : List Int) (a : Int) : (insB l a).length = l.length + 1 := by
  have := lo_le l (fun x => decide (x < a))
  simp only [insB, List.length_append, List.length_cons, List.length_take, List.length_drop]
  omega
theorem owner_rng (r : Rm) (h : r.Ok) (a n : Int) (e : r.ownerS a = some n) : 0 ≤ n ∧ n < r.pages := by
  unfold Rm.ownerS at e
  split at e
  · cases e
  · rename_i h1
    split at e
    · rename_i h2; cases e; omega
    · cases hf : (r.places.find? fun p => p.ad == a) with
      | none => rw [hf] at e; cases e
      | some p =>
        rw [hf] at e
        have hm := List.mem_of_find?_eq_some hf
        have := h.prng p hm
        simp only [Option.map_some, Option.some.injEq] at e
        omega
theorem cells_setP (l : List Pl) (i : Nat) (p : Pl) (h : i < l.length) : splice (cells encP l) (i * 2) [.pv (.lit (.int .i64 p.pg)), .pv (.lit (.int .i64 p.ad))] = cells encP (l.set i p) := by
  have := splice_cells encP l [p] i
  rw [show encP.sz = 2 from rfl] at this
  rw [show ([.pv (.lit (.int .i64 p.pg)), .pv (.lit (.int .i64 p.ad))] : List DV) = cells encP [p] from rfl, this]
  congr 1
  rw [List.set_eq_take_append_cons_drop, if_pos h]
  simp
theorem cells_setPx (l : List Pl) (i : Nat) (p : Pl) (h : i < l.length) : (cells encP l).take (i * 2) ++ [.pv (.lit (.int .i64 p.pg)), .pv (.lit (.int .i64 p.ad))] ++ (cells encP l).drop (i * 2 + 2) = cells encP (l.set i p) := cells_setP l i p h
theorem frzC_P {n : Nat} {hp : Heap} {len : Nat} {l : List Pl} (h : l.length = len) : frzC n hp 0 2 len (some (cells encP l)) = some (.sl (fz encP l)) := frzC_cells encP h
theorem new_v (n m : Int) : VCalls Try.prog 11 [.int .i64 n, .int .i64 m] [] (Ret (if (⟨n, m, [], []⟩ : Rm).okB = true then .tup [.agg (⟨n, m, [], []⟩ : Rm).d, .int .i64 0] else .tup [.agg Rm0.d, .int .i64 1])) := by
  refine VCalls.unwk ?_
  refine vcalls_drop (fn := Try.f11) Try.func11 rfl (by kernel_rfl) (by simp [Try.f11]) ?_
  have hv := valid_v ⟨n, m, [], []⟩ ⟨by simp, by simp⟩
  simp (config := { maxSteps := 2000000 }) (implicitDefEqProofs := false) (disch := first | omega | assumption | (simp only []; done) | fail) only [vop_move, vcallee_move, vop_assign, vcallee_assign, vop_alloc, vcallee_alloc, vop_build, vcallee_build, vop_load, vcallee_load, vop_store, vcallee_store, vcallee_value, vcal_fn, strip_pv, strip_ptr, strip_agg, strip_fn, optV_none, ev_tmp, ev_const, ev_func, ofConst_int, put_some, put_none, at_mk, fits_some, fits_none, ↓look_cons, ↓vlook_t, ↓vlook_f, guard_none, ↓vrun_nil, ↓code_region, ↓code_seq, ↓onNormal_normal, load_ptr, vld_agg, store_ptr, vst_agg, blk_zero, blk_succ, set_zero, set_succ, alloc_eq, val1_some, allOne_nil, allOne_cons, one_pv, parts_nil, parts_cons, enum_nil, enum_cons, evG_eq, ↓vrun_cons, ↓run1_some, ↓runG_true, ↓run2_none, ↓run2_some, ↓run3_some, at_hp, List.map_nil, dcells, vbuild, vfill, V.splice, List.toList_toArray, List.getElem?_cons_zero, List.getElem?_cons_succ, List.length_cons, List.length_nil, List.map_cons, List.map_nil, List.cons_append, List.nil_append, List.append_nil, List.take_succ_cons, List.take_zero, List.take_nil, List.drop_succ_cons, List.drop_zero, List.drop_nil, Option.map_some, ↓reduceIte, Nat.reduceAdd, Nat.reduceLT, Nat.reduceLeDiff, Nat.reduceBEq, Int.reduceLT, Int.reduceAdd, Int.reduceBEq, Nat.zero_add, true_and, and_self, Bool.true_and, Bool.and_self, beq_self_eq_true, Nat.le_refl, Try.vt29, Try.vplaces29, Try.vzero29, dec_t, Try.f11]
  refine vc_pure (VCalls.wkA hv) rfl ?_
  by_cases ho : (⟨n, m, [], []⟩ : Rm).okB = true
  · rw [if_pos ho]
    simp (config := { maxSteps := 2000000 }) (implicitDefEqProofs := false) (disch := first | omega | assumption | (simp only []; done) | fail) only [vop_assign, vcallee_assign, vop_load, vcallee_load, vop_store, vcallee_store, vop_unOp, vcallee_unOp, strip_pv, strip_ptr, strip_agg, optV_none, ev_tmp, ev_const, ofConst_int, put_some, put_none, at_mk, fits_some, fits_none, ↓look_cons, ↓vlook_t, ↓vlook_f, guard_none, ↓vrun_nil, ↓code_skip, ↓code_region, ↓code_seq, ↓code_ret, ↓onNormal_normal, frz_tup, frzT_agg, frzT_pv, frz1_pv, allSome_nil, allSome_cons, frzHeap_zero, res_two, vres_tmp, vres_cell, load_ptr, vld_agg, store_ptr, vst_agg, blk_zero, blk_succ, set_zero, allOne_nil, allOne_cons, one_pv, un_not, evG_eq, ↓vrun_cons, ↓run1_some, ↓runG_true, ↓run2_none, ↓run3_some, ↓runK_eq, ↓code_cond, ↓vtest_bool, ↓vbr_false, ↓vpost_ret, vfin_some, vfin2_some, at_hp, List.map_nil, V.splice, List.length_cons, List.length_nil, List.map_cons, List.map_nil, List.nil_append, List.append_nil, List.take_succ_cons, List.take_zero, List.take_nil, List.drop_succ_cons, List.drop_zero, List.drop_nil, Option.map_some, ↓reduceIte, Nat.reduceAdd, Nat.reduceLT, Nat.reduceBEq, Int.reduceLT, Int.reduceAdd, Int.reduceBEq, Nat.zero_add, true_and, and_self, Bool.not_true, Bool.true_and, Bool.and_self, beq_self_eq_true, Nat.le_refl, RetW, DV.wk, DV.wk.go, PV.wk, Try.vt29, dec_t, DV.nums, DV.nums.go, ho]
    rfl
  · have ho' : (⟨n, m, [], []⟩ : Rm).okB = false := by simpa using ho
    rw [if_neg ho]
    simp (config := { maxSteps := 2000000 }) (implicitDefEqProofs := false) (disch := first | omega | assumption | (simp only []; done) | fail) only [vop_assign, vcallee_assign, vop_build, vcallee_build, vop_store, vcallee_store, vop_unOp, vcallee_unOp, strip_pv, strip_ptr, strip_agg, optV_none, ev_tmp, ev_const, ofConst_int, put_some, put_none, at_mk, fits_some, fits_none, ↓look_cons, ↓vlook_t, ↓vlook_f, guard_none, ↓vrun_nil, ↓code_region, ↓code_seq, ↓code_ret, ↓onNormal_normal, ↓onNormal_ret, frz_tup, frzT_agg, frzT_pv, frz1_pv, allSome_nil, allSome_cons, frzHeap_zero, res_two, vres_tmp, vres_cell, load_ptr, vld_agg, store_ptr, vst_agg, blk_zero, set_zero, allOne_nil, allOne_cons, one_pv, un_not, parts_nil, evG_eq, ↓vrun_cons, ↓run1_some, ↓runG_true, ↓run2_none, ↓run3_some, ↓runK_eq, ↓code_cond, ↓vtest_bool, ↓vbr_true, ↓vpost_ret, vfin_some, vfin2_some, at_hp, List.map_nil, vbuild, vfill, V.splice, List.length_cons, List.length_nil, List.map_cons, List.map_nil, List.nil_append, List.append_nil, List.take_succ_cons, List.take_zero, List.take_nil, List.drop_succ_cons, List.drop_zero, List.drop_nil, Option.map_some, ↓reduceIte, Nat.reduceAdd, Nat.reduceLT, Nat.reduceBEq, Int.reduceLT, Int.reduceAdd, Int.reduceBEq, Nat.zero_add, true_and, and_self, Bool.not_false, Bool.true_and, Bool.and_self, beq_self_eq_true, Nat.le_refl, RetW, DV.wk, DV.wk.go, PV.wk, Try.vt29, Try.vplaces29, Try.vzero29, dec_t, DV.nums, DV.nums.go, ho']
    rfl
end Go.Proofs.Ytjjjlkjhojdnnaa

namespace Go.Proofs.Ytjjjlkjhojdnnaa
open Go.V Go
set_option maxRecDepth 100000
set_option linter.unusedSimpArgs false

theorem cellsP_len (l : List Pl) : (cells encP l).length = l.length * 2 := cells_len encP l
set_option maxHeartbeats 4000000 in
theorem mark_v (r : Rm) (hs : r.sm) (a : Int) : VCalls Try.prog 23 [.agg r.d, .int .i64 a] [] (Ret (remD (r.markS a).1 (r.markS a).2.1 (r.markS a).2.2)) := by
  refine VCalls.unwk ?_
  refine vcalls_drop (fn := Try.f23) Try.func23 rfl (by kernel_rfl) (by simp [Try.f23]) ?_
  have hv := valid_v r hs
  have ho1 := owner_v r hs a
  unfold Rm.markS
  by_cases ho : r.okB = true
  · have hok := (ok_iff r).1 ho
    have hb := bad_v r hs.2 hok.basc a
    have hfr := free_v r hok hs
    have hbs := bsearchI_v r.bad (by have := hs.2; omega) a (asc_fore r.bad hok.basc a)
    have hlo := lo_le r.bad (fun x => decide (x < a))
    have p1 := hok.p1
    have s1 := hok.s1
    have p2 := hok.p2
    have q3 := hok.s3
    obtain ⟨hs1, hs2⟩ := hs
    rw [ho] at hv
    rw [if_pos ho] at ho1 ⊢
    by_cases h1 : a < 0
    · rw [if_pos (.inl h1)]
      simp (config := { maxSteps := 2000000 }) (implicitDefEqProofs := false) (disch := first | omega | assumption | (simp only []; done) | fail) only [vop_assign, vcallee_assign, vop_alloc, vcallee_alloc, vop_box, vcallee_box, vop_load, vcallee_load, vcallee_value, vcal_fn, strip_pv, strip_ptr, strip_agg, strip_fn, optV_none, ev_tmp, ev_const, ev_func, ofConst_int, put_some, at_mk, fits_some, ↓look_cons, ↓vlook_t, ↓vlook_f, guard_none, ↓vrun_nil, ↓code_region, ↓code_seq, ↓code_block, ↓onNormal_normal, load_ptr, vld_agg, blk_zero, box_eq, alloc_eq, val1_some, allOne_nil, allOne_cons, one_pv, enum_nil, enum_cons, evG_eq, ↓vrun_cons, ↓run1_some, ↓runG_true, ↓run2_none, ↓run2_some, ↓run3_some, at_hp, List.map_nil, dcells, List.toList_toArray, List.length_cons, List.length_nil, List.map_cons, List.map_nil, List.cons_append, List.nil_append, List.append_nil, List.take_succ_cons, List.take_nil, List.drop_zero, Option.map_some, ↓reduceIte, Nat.reduceAdd, Nat.reduceLT, Nat.reduceBEq, Int.reduceLT, Int.reduceNeg, Int.reduceAdd, Int.reduceBEq, Nat.zero_add, true_and, and_self, Bool.true_and, Bool.and_self, beq_self_eq_true, Nat.le_refl, Try.vt29, Try.vzero29, dec_t, Try.f23, Rm.d]
      refine vc_pure hv rfl ?_
      simp (config := { maxSteps := 2000000 }) (implicitDefEqProofs := false) (disch := first | omega | assumption | (simp only []; done) | fail) only [vop_move, vcallee_move, vop_assign, vcallee_assign, vop_pick, vcallee_pick, vop_build, vcallee_build, vop_store, vcallee_store, vop_binOp, vcallee_binOp, vop_unOp, vcallee_unOp, bin2_int, vpick_bool, strip_pv, strip_ptr, strip_agg, strip_tup, optV_none, ev_tmp, ev_const, ofConst_int, ofConst_bool, put_some, put_none, at_mk, fits_some, fits_none, ↓look_cons, ↓vlook_t, ↓vlook_f, guard_none, guard_some, vgof_bool, ↓vrun_nil, ↓code_region, ↓code_seq, ↓code_ret, ↓onNormal_normal, ↓onNormal_ret, ↓onBlock_ret, frz_tup, frzT_agg, frzT_pv, frz1_pv, allSome_nil, allSome_cons, frzHeap_zero, res_two, vres_tmp, vres_cell, load_ptr, vld_agg, store_ptr, vst_agg, blk_zero, blk_succ, set_zero, set_succ, allOne_nil, allOne_cons, one_pv, bin_int, int_lss, un_not, parts_nil, evG_eq, ↓vrun_cons, ↓run1_some, ↓runG_true, ↓runG_false, ↓run2_none, ↓run3_some, ↓runK_eq, ↓code_cond, ↓vtest_bool, ↓vbr_true, ↓vbr_false, ↓vpost_ret, vfin_some, vfin2_some, at_hp, pickV_t, List.map_nil, vbuild, vfill, V.splice, List.getElem?_cons_zero, List.getElem?_cons_succ, List.length_cons, List.length_nil, List.map_cons, List.map_nil, List.nil_append, List.append_nil, List.take_succ_cons, List.take_zero, List.take_nil, List.drop_succ_cons, List.drop_zero, List.drop_nil, Option.map_some, Option.bind_some, ↓reduceIte, Nat.reduceAdd, Nat.reduceLT, Nat.reduceBEq, Int.reduceLT, Int.reduceNeg, Int.reduceAdd, Int.reduceBEq, Nat.zero_add, true_and, and_self, Bool.not_true, Bool.true_and, Bool.and_self, b_beq_f, beq_self_eq_true, Nat.le_refl, RetW, DV.wk, DV.wk.go, PV.wk, Try.vt29, Try.vplaces29, Try.vzero29, dec_t, DV.nums, DV.nums.go, h1]
      rfl
    by_cases h2 : r.pages + r.spares ≤ a
    · rw [if_pos (.inr h2)]
      simp (config := { maxSteps := 2000000 }) (implicitDefEqProofs := false) (disch := first | omega | assumption | (simp only []; done) | fail) only [vop_assign, vcallee_assign, vop_alloc, vcallee_alloc, vop_box, vcallee_box, vop_load, vcallee_load, vcallee_value, vcal_fn, strip_pv, strip_ptr, strip_agg, strip_fn, optV_none, ev_tmp, ev_const, ev_func, ofConst_int, put_some, at_mk, fits_some, ↓look_cons, ↓vlook_t, ↓vlook_f, guard_none, ↓vrun_nil, ↓code_region, ↓code_seq, ↓code_block, ↓onNormal_normal, load_ptr, vld_agg, blk_zero, box_eq, alloc_eq, val1_some, allOne_nil, allOne_cons, one_pv, enum_nil, enum_cons, evG_eq, ↓vrun_cons, ↓run1_some, ↓runG_true, ↓run2_none, ↓run2_some, ↓run3_some, at_hp, List.map_nil, dcells, List.toList_toArray, List.length_cons, List.length_nil, List.map_cons, List.map_nil, List.cons_append, List.nil_append, List.append_nil, List.take_succ_cons, List.take_nil, List.drop_zero, Option.map_some, ↓reduceIte, Nat.reduceAdd, Nat.reduceLT, Nat.reduceBEq, Int.reduceLT, Int.reduceNeg, Int.reduceAdd, Int.reduceBEq, Nat.zero_add, true_and, and_self, Bool.true_and, Bool.and_self, beq_self_eq_true, Nat.le_refl, Try.vt29, Try.vzero29, dec_t, Try.f23, Rm.d]
      refine vc_pure hv rfl ?_
      simp (config := { maxSteps := 2000000 }) (implicitDefEqProofs := false) (disch := first | omega | assumption | (simp only []; done) | fail) only [vop_move, vcallee_move, vop_assign, vcallee_assign, vop_pick, vcallee_pick, vop_build, vcallee_build, vop_load, vcallee_load, vop_store, vcallee_store, vop_binOp, vcallee_binOp, vop_unOp, vcallee_unOp, vop_fieldAddr, vcallee_fieldAddr, bin2_tmp, bin2_int, vpick_bool, strip_pv, strip_ptr, strip_agg, strip_opt, vstr_true, optV_none, optV_some, pickV_bool, ev_tmp, ev_const, ofConst_int, ofConst_bool, put_some, put_none, at_mk, fits_some, fits_none, ↓look_cons, ↓vlook_t, ↓vlook_f, guard_none, guard_some, vgof_bool, ↓vrun_nil, ↓code_region, ↓code_seq, ↓code_ret, ↓onNormal_normal, ↓onNormal_ret, ↓onBlock_ret, frz_tup, frzT_agg, frzT_pv, frz1_pv, allSome_nil, allSome_cons, frzHeap_zero, res_two, vres_tmp, vres_cell, load_ptr, vld_one, vld_agg, store_ptr, vst_agg, blk_zero, blk_succ, set_zero, set_succ, allOne_nil, allOne_cons, one_pv, faddr_ptr, vfap_some, bin_int, int_add, int_lss, int_geq, un_not, parts_nil, evG_eq, ↓vrun_cons, ↓run1_some, ↓runG_true, ↓run2_none, ↓run3_some, ↓runK_eq, ↓code_cond, ↓vtest_bool, ↓vbr_true, ↓vbr_false, ↓vpost_ret, vfin_some, vfin2_some, at_hp, List.map_nil, vbuild, vfill, V.splice, List.getElem?_cons_zero, List.getElem?_cons_succ, List.length_cons, List.length_nil, List.map_cons, List.map_nil, List.nil_append, List.append_nil, List.take_succ_cons, List.take_zero, List.take_nil, List.drop_succ_cons, List.drop_zero, List.drop_nil, Option.map_some, Option.bind_some, ↓reduceIte, reduceCtorEq, Nat.reduceAdd, Nat.reduceLT, Nat.reduceBEq, Int.reduceLT, Int.reduceNeg, Int.reduceAdd, Int.reduceBEq, Nat.zero_add, Nat.add_zero, decide_false, true_and, and_self, or_true, Bool.not_true, Bool.not_false, Bool.or_true, Bool.true_and, Bool.and_self, Bool.cond_self, beq_self_eq_true, Nat.le_refl, RetW, DV.wk, DV.wk.go, PV.wk, Try.vt3, Try.vt29, Try.vfield29x0, Try.vfield29x1, Try.vplaces29, Try.vzero29, wrap_i64_in, dec_t, DV.nums, DV.nums.go, h1, h2]
      rfl
    rw [if_neg (by omega)]
    by_cases h3 : a ∈ r.bad
    · rw [if_pos h3]
      simp (config := { maxSteps := 2000000 }) (implicitDefEqProofs := false) (disch := first | omega | assumption | (simp only []; done) | fail) only [vop_assign, vcallee_assign, vop_alloc, vcallee_alloc, vop_box, vcallee_box, vop_load, vcallee_load, vcallee_value, vcal_fn, strip_pv, strip_ptr, strip_agg, strip_fn, optV_none, ev_tmp, ev_const, ev_func, ofConst_int, put_some, at_mk, fits_some, ↓look_cons, ↓vlook_t, ↓vlook_f, guard_none, ↓vrun_nil, ↓code_region, ↓code_seq, ↓code_block, ↓onNormal_normal, load_ptr, vld_agg, blk_zero, box_eq, alloc_eq, val1_some, allOne_nil, allOne_cons, one_pv, enum_nil, enum_cons, evG_eq, ↓vrun_cons, ↓run1_some, ↓runG_true, ↓run2_none, ↓run2_some, ↓run3_some, at_hp, List.map_nil, dcells, List.toList_toArray, List.length_cons, List.length_nil, List.map_cons, List.map_nil, List.cons_append, List.nil_append, List.append_nil, List.take_succ_cons, List.take_nil, List.drop_zero, Option.map_some, ↓reduceIte, Nat.reduceAdd, Nat.reduceLT, Nat.reduceBEq, Int.reduceLT, Int.reduceNeg, Int.reduceAdd, Int.reduceBEq, Nat.zero_add, true_and, and_self, Bool.true_and, Bool.and_self, beq_self_eq_true, Nat.le_refl, Try.vt29, Try.vzero29, dec_t, Try.f23, Rm.d]
      refine vc_pure hv rfl ?_
      simp (config := { maxSteps := 2000000 }) (implicitDefEqProofs := false) (disch := first | omega | assumption | (simp only []; done) | fail) only [vop_move, vcallee_move, vop_assign, vcallee_assign, vop_pick, vcallee_pick, vop_load, vcallee_load, vop_binOp, vcallee_binOp, vop_unOp, vcallee_unOp, vop_fieldAddr, vcallee_fieldAddr, vcallee_value, vcal_fn, bin2_tmp, bin2_int, vpick_bool, strip_pv, strip_ptr, strip_agg, strip_fn, strip_opt, vstr_true, optV_none, optV_some, pickV_bool, ev_tmp, ev_const, ev_func, ofConst_int, ofConst_bool, put_some, at_mk, fits_some, ↓look_cons, ↓vlook_t, ↓vlook_f, guard_none, guard_some, vgof_bool, ↓vrun_nil, ↓code_region, ↓code_seq, ↓onNormal_normal, load_ptr, vld_one, vld_agg, blk_zero, faddr_ptr, vfap_some, bin_int, int_add, int_lss, int_geq, un_not, evG_eq, ↓vrun_cons, ↓run1_some, ↓runG_true, ↓run2_none, ↓run2_some, ↓run3_some, ↓runK_eq, ↓code_cond, ↓vtest_bool, ↓vbr_false, at_hp, List.map_nil, List.getElem?_cons_zero, List.getElem?_cons_succ, List.length_cons, List.length_nil, List.map_cons, List.map_nil, List.nil_append, List.append_nil, List.take_succ_cons, List.take_nil, List.drop_zero, Option.map_some, Option.bind_some, ↓reduceIte, reduceCtorEq, Nat.reduceAdd, Nat.reduceLT, Nat.reduceBEq, Int.reduceLT, Int.reduceNeg, Int.reduceAdd, Int.reduceBEq, Nat.zero_add, Nat.add_zero, decide_false, true_and, or_true, Bool.not_true, Bool.not_false, Bool.or_true, Bool.true_and, cond_false, beq_self_eq_true, Nat.le_refl, Try.vt3, Try.vt29, Try.vfield29x0, Try.vfield29x1, wrap_i64_in, dec_t, h1, h2]
      refine vc_pure hb rfl ?_
      simp (config := { maxSteps := 2000000 }) (implicitDefEqProofs := false) (disch := first | omega | assumption | (simp only []; done) | fail) only [vop_assign, vcallee_assign, vop_load, vcallee_load, vop_store, vcallee_store, strip_pv, strip_ptr, strip_agg, optV_none, ev_tmp, ev_const, ofConst_int, put_some, put_none, at_mk, fits_some, fits_none, ↓look_cons, ↓vlook_t, ↓vlook_f, guard_none, ↓vrun_nil, ↓code_region, ↓code_seq, ↓code_ret, ↓onNormal_normal, ↓onNormal_ret, ↓onBlock_ret, frz_tup, frzT_agg, frzT_pv, frz1_pv, allSome_nil, allSome_cons, frzHeap_zero, res_two, vres_tmp, vres_cell, load_ptr, vld_agg, store_ptr, vst_agg, blk_zero, blk_succ, set_zero, set_succ, allOne_nil, allOne_cons, one_pv, evG_eq, ↓vrun_cons, ↓run1_some, ↓runG_true, ↓run2_none, ↓run3_some, ↓runK_eq, ↓code_cond, ↓vtest_bool, ↓vbr_true, ↓vpost_ret, vfin_some, vfin2_some, at_hp, List.map_nil, V.splice, List.length_cons, List.length_nil, List.map_cons, List.map_nil, List.nil_append, List.append_nil, List.take_succ_cons, List.take_zero, List.take_nil, List.drop_succ_cons, List.drop_zero, List.drop_nil, Option.map_some, ↓reduceIte, Nat.reduceAdd, Nat.reduceLT, Nat.reduceBEq, Int.reduceLT, Int.reduceNeg, Int.reduceAdd, Int.reduceBEq, Nat.zero_add, true_and, and_self, Bool.true_and, Bool.and_self, beq_self_eq_true, Nat.le_refl, RetW, DV.wk, DV.wk.go, PV.wk, Try.vt29, dec_t, DV.nums, DV.nums.go, h3]
      rfl
    rw [if_neg h3]
    simp (config := { maxSteps := 2000000 }) (implicitDefEqProofs := false) (disch := first | omega | assumption | (simp only []; done) | fail) only [vop_assign, vcallee_assign, vop_alloc, vcallee_alloc, vop_box, vcallee_box, vop_load, vcallee_load, vcallee_value, vcal_fn, strip_pv, strip_ptr, strip_agg, strip_fn, optV_none, ev_tmp, ev_const, ev_func, ofConst_int, put_some, at_mk, fits_some, ↓look_cons, ↓vlook_t, ↓vlook_f, guard_none, ↓vrun_nil, ↓code_region, ↓code_seq, ↓code_block, ↓onNormal_normal, load_ptr, vld_agg, blk_zero, box_eq, alloc_eq, val1_some, allOne_nil, allOne_cons, one_pv, enum_nil, enum_cons, evG_eq, ↓vrun_cons, ↓run1_some, ↓runG_true, ↓run2_none, ↓run2_some, ↓run3_some, at_hp, List.map_nil, dcells, List.toList_toArray, List.length_cons, List.length_nil, List.map_cons, List.map_nil, List.cons_append, List.nil_append, List.append_nil, List.take_succ_cons, List.take_nil, List.drop_zero, Option.map_some, ↓reduceIte, Nat.reduceAdd, Nat.reduceLT, Nat.reduceBEq, Int.reduceLT, Int.reduceNeg, Int.reduceAdd, Int.reduceBEq, Nat.zero_add, true_and, and_self, Bool.true_and, Bool.and_self, beq_self_eq_true, Nat.le_refl, Try.vt29, Try.vzero29, dec_t, Try.f23, Rm.d]
    refine vc_pure hv rfl ?_
    simp (config := { maxSteps := 2000000 }) (implicitDefEqProofs := false) (disch := first | omega | assumption | (simp only []; done) | fail) only [vop_move, vcallee_move, vop_assign, vcallee_assign, vop_pick, vcallee_pick, vop_load, vcallee_load, vop_binOp, vcallee_binOp, vop_unOp, vcallee_unOp, vop_fieldAddr, vcallee_fieldAddr, vcallee_value, vcal_fn, bin2_tmp, bin2_int, vpick_bool, strip_pv, strip_ptr, strip_agg, strip_fn, strip_opt, vstr_true, optV_none, optV_some, pickV_bool, ev_tmp, ev_const, ev_func, ofConst_int, ofConst_bool, put_some, at_mk, fits_some, ↓look_cons, ↓vlook_t, ↓vlook_f, guard_none, guard_some, vgof_bool, ↓vrun_nil, ↓code_region, ↓code_seq, ↓onNormal_normal, load_ptr, vld_one, vld_agg, blk_zero, faddr_ptr, vfap_some, bin_int, int_add, int_lss, int_geq, un_not, evG_eq, ↓vrun_cons, ↓run1_some, ↓runG_true, ↓run2_none, ↓run2_some, ↓run3_some, ↓runK_eq, ↓code_cond, ↓vtest_bool, ↓vbr_false, at_hp, List.map_nil, List.getElem?_cons_zero, List.getElem?_cons_succ, List.length_cons, List.length_nil, List.map_cons, List.map_nil, List.nil_append, List.append_nil, List.take_succ_cons, List.take_nil, List.drop_zero, Option.map_some, Option.bind_some, ↓reduceIte, reduceCtorEq, Nat.reduceAdd, Nat.reduceLT, Nat.reduceBEq, Int.reduceLT, Int.reduceNeg, Int.reduceAdd, Int.reduceBEq, Nat.zero_add, Nat.add_zero, decide_false, true_and, or_true, Bool.not_true, Bool.not_false, Bool.or_true, Bool.true_and, cond_false, beq_self_eq_true, Nat.le_refl, Try.vt3, Try.vt29, Try.vfield29x0, Try.vfield29x1, wrap_i64_in, dec_t, h1, h2]
    refine vc_pure hb rfl ?_
    simp (config := { maxSteps := 2000000 }) (implicitDefEqProofs := false) (disch := first | omega | assumption | (simp only []; done) | fail) only [vop_move, vcallee_move, vop_assign, vcallee_assign, vop_load, vcallee_load, vcallee_value, vcal_fn, strip_pv, strip_ptr, strip_agg, strip_fn, optV_none, ev_tmp, ev_func, put_some, at_mk, fits_some, ↓look_cons, ↓vlook_t, ↓vlook_f, guard_none, ↓vrun_nil, ↓code_skip, ↓code_region, ↓code_seq, ↓onNormal_normal, ↓onBlock_normal, load_ptr, vld_agg, blk_zero, evG_eq, ↓vrun_cons, ↓run1_some, ↓runG_true, ↓run2_none, ↓run2_some, ↓run3_some, ↓runK_eq, ↓code_cond, ↓vtest_bool, ↓vbr_false, at_hp, List.map_nil, List.length_cons, List.length_nil, List.map_cons, List.map_nil, List.nil_append, List.append_nil, List.take_succ_cons, List.take_nil, List.drop_zero, Option.map_some, ↓reduceIte, Nat.reduceAdd, Nat.reduceLT, Nat.reduceBEq, Int.reduceLT, Int.reduceNeg, Int.reduceAdd, Int.reduceBEq, Nat.zero_add, decide_false, true_and, Bool.true_and, beq_self_eq_true, Nat.le_refl, Try.vt29, dec_t, h3]
    refine vc_pure ho1 rfl ?_
    have hins := insertI_v r.bad a (lo r.bad fun x => decide (x < a)) hlo (by omega)
    have hil := insB_len r.bad a
    cases e : r.ownerS a with
    | none =>
      simp (config := { maxSteps := 2000000 }) (implicitDefEqProofs := false) (disch := first | omega | assumption | (simp only []; done) | fail) only [vop_move, vcallee_move, vop_assign, vcallee_assign, vop_alloc, vcallee_alloc, vop_load, vcallee_load, vop_store, vcallee_store, vop_fieldAddr, vcallee_fieldAddr, vop_extract, vcallee_extract, vcallee_value, vcal_fn, strip_pv, strip_ptr, strip_agg, strip_tup, strip_fn, optV_none, ev_tmp, ev_func, put_some, put_none, at_mk, fits_some, fits_none, ↓look_cons, ↓vlook_t, ↓vlook_f, guard_none, ↓vrun_nil, ↓code_region, ↓code_seq, ↓onNormal_normal, load_ptr, vld_one, vld_agg, store_ptr, vst_agg, blk_zero, blk_succ, set_zero, set_succ, alloc_eq, val1_some, allOne_nil, allOne_cons, one_pv, faddr_ptr, vfap_some, ext_tup, evG_eq, ↓vrun_cons, ↓run1_some, ↓runG_true, ↓run2_none, ↓run2_some, ↓run3_some, ↓runK_eq, at_hp, List.map_nil, V.splice, List.getElem?_cons_zero, List.getElem?_cons_succ, List.length_cons, List.length_nil, List.map_cons, List.map_nil, List.cons_append, List.nil_append, List.append_nil, List.take_succ_cons, List.take_zero, List.take_nil, List.drop_succ_cons, List.drop_zero, List.drop_nil, Option.map_some, ↓reduceIte, reduceCtorEq, Nat.reduceAdd, Nat.reduceLT, Nat.reduceBEq, Int.reduceLT, Int.reduceNeg, Int.reduceAdd, Int.reduceBEq, Nat.zero_add, true_and, and_self, Bool.true_and, Bool.and_self, beq_self_eq_true, Nat.le_refl, Try.vt27, Try.vt29, Try.vfield29x3, Try.vzero29, dec_t, ownD]
      refine vc_pure hbs rfl ?_
      simp (config := { maxSteps := 2000000 }) (implicitDefEqProofs := false) (disch := first | omega | assumption | (simp only []; done) | fail) only [vop_move, vcallee_move, vop_assign, vcallee_assign, vop_load, vcallee_load, vop_fieldAddr, vcallee_fieldAddr, vop_extract, vcallee_extract, vcallee_value, vcal_fn, strip_pv, strip_ptr, strip_tup, strip_fn, optV_none, ev_tmp, ev_func, put_some, at_mk, fits_some, ↓look_cons, ↓vlook_t, ↓vlook_f, guard_none, ↓vrun_nil, ↓code_region, ↓code_seq, ↓onNormal_normal, load_ptr, vld_one, blk_zero, faddr_ptr, vfap_some, ext_tup, evG_eq, ↓vrun_cons, ↓run1_some, ↓runG_true, ↓run2_none, ↓run2_some, ↓run3_some, ↓runK_eq, at_hp, List.map_nil, List.getElem?_cons_zero, List.getElem?_cons_succ, List.map_cons, List.map_nil, List.nil_append, List.append_nil, Option.map_some, ↓reduceIte, reduceCtorEq, Nat.reduceLT, Nat.reduceBEq, Int.reduceLT, Int.reduceNeg, Int.reduceBEq, Nat.zero_add, true_and, Bool.true_and, beq_self_eq_true, Try.vt27, Try.vfield29x3, dec_t]
      refine vc_new0 (cloneI_v r.bad (by omega)) rfl (cells_nums _ _ _) ?_
      simp (config := { maxSteps := 2000000 }) (implicitDefEqProofs := false) (disch := first | omega | assumption | (simp only []; done) | fail) only [vop_move, vcallee_move, vop_buildSlice, vcallee_buildSlice, vcallee_value, vcal_fn, strip_pv, strip_own, strip_fn, optV_none, ev_tmp, ev_func, put_some, at_mk, fits_some, ↓look_cons, ↓vlook_t, ↓vlook_f, guard_none, allOne_nil, allOne_cons, one_pv, parts_nil, parts_cons, evG_eq, ↓vrun_cons, ↓run1_some, ↓runG_true, ↓run2_none, ↓run2_some, ↓run3_some, ↓runK_eq, at_hp, List.map_nil, dcells, vfill, vbuildSlice, V.mk, V.splice, List.length_cons, List.length_nil, List.map_cons, List.map_nil, List.cons_append, List.nil_append, List.append_nil, List.take_zero, List.drop_succ_cons, List.drop_nil, Option.map_some, ↓reduceIte, Nat.reduceAdd, Nat.reduceLT, Nat.reduceLeDiff, Nat.reduceBEq, Int.reduceLT, Int.reduceNeg, Int.reduceAdd, Int.reduceBEq, Nat.zero_add, Nat.mul_one, true_and, and_self, Bool.true_and, Bool.and_self, beq_self_eq_true, Nat.le_refl, Try.vzero3, Try.velem27, dec_t]
      refine vc_newP [3, 4] [3, 4] hins rfl ⟨⟨by simp, cells_nums _ _ _⟩, ⟨by simp, rfl⟩, trivial⟩ (by decide) rfl rfl rfl (cells_nums _ _ _) ?_
      have hfi := fun n hp => frzC_I (n := n) (hp := hp) hil
      rw [insB] at hfi
      simp (config := { maxSteps := 2000000 }) (implicitDefEqProofs := false) (disch := first | omega | assumption | (simp only []; done) | fail) only [vop_move, vcallee_move, vop_assign, vcallee_assign, vop_load, vcallee_load, vop_store, vcallee_store, vop_unOp, vcallee_unOp, vop_fieldAddr, vcallee_fieldAddr, strip_pv, strip_ptr, strip_own, strip_agg, optV_none, ev_tmp, ev_const, ofConst_int, put_some, put_none, at_mk, fits_some, fits_none, ↓look_cons, ↓vlook_t, ↓vlook_f, guard_none, ↓vrun_nil, ↓code_region, ↓code_seq, ↓code_ret, ↓onNormal_normal, ↓onNormal_ret, frz_tup, frzT_agg, frzT_pv, frz1_pv, frz1_own, allSome_nil, allSome_cons, frzHeap_zero, res_two, vres_tmp, vres_cell, load_ptr, vld_agg, store_ptr, vst_one, vst_agg, blk_zero, blk_succ, set_zero, set_succ, allOne_nil, allOne_cons, one_pv, one_own, faddr_ptr, vfap_some, un_not, evG_eq, ↓vrun_cons, ↓run1_some, ↓runG_true, ↓run2_none, ↓run3_some, ↓runK_eq, ↓code_cond, ↓vtest_bool, ↓vbr_true, ↓vpost_ret, vfin_some, vfin2_some, at_hp, List.map_nil, V.kill, kills, V.splice, List.getElem?_cons_zero, List.getElem?_cons_succ, List.length_cons, List.length_nil, List.map_cons, List.map_nil, List.cons_append, List.nil_append, List.append_nil, List.take_succ_cons, List.take_zero, List.take_nil, List.drop_succ_cons, List.drop_zero, List.drop_nil, List.set_cons_zero, List.set_cons_succ, Option.map_some, ↓reduceIte, reduceCtorEq, Nat.reduceAdd, Nat.reduceLT, Nat.reduceBEq, Int.reduceLT, Int.reduceNeg, Int.reduceAdd, Int.reduceBEq, Nat.zero_add, true_and, and_self, Bool.not_false, Bool.true_and, Bool.and_self, beq_self_eq_true, Nat.le_refl, frzP_own, RetW, DV.wk, DV.wk.go, PV.wk, Try.vt27, Try.vt29, Try.vfield29x3, dec_t, DV.nums, DV.nums.go, hfi]
      rfl
    | some n =>
      have hn := owner_rng r hok a n e
      have hpl := place_v r hok ⟨hs1, hs2⟩ n hn
      have hplo : plo r.places n ≤ r.places.length := lo_le _ _
      simp (config := { maxSteps := 2000000 }) (implicitDefEqProofs := false) (disch := first | omega | assumption | (simp only []; done) | fail) only [vop_move, vcallee_move, vop_assign, vcallee_assign, vop_alloc, vcallee_alloc, vop_load, vcallee_load, vop_store, vcallee_store, vop_fieldAddr, vcallee_fieldAddr, vop_extract, vcallee_extract, vcallee_value, vcal_fn, strip_pv, strip_ptr, strip_agg, strip_tup, strip_fn, optV_none, ev_tmp, ev_func, put_some, put_none, at_mk, fits_some, fits_none, ↓look_cons, ↓vlook_t, ↓vlook_f, guard_none, ↓vrun_nil, ↓code_region, ↓code_seq, ↓onNormal_normal, load_ptr, vld_one, vld_agg, store_ptr, vst_agg, blk_zero, blk_succ, set_zero, set_succ, alloc_eq, val1_some, allOne_nil, allOne_cons, one_pv, faddr_ptr, vfap_some, ext_tup, evG_eq, ↓vrun_cons, ↓run1_some, ↓runG_true, ↓run2_none, ↓run2_some, ↓run3_some, ↓runK_eq, at_hp, List.map_nil, V.splice, List.getElem?_cons_zero, List.getElem?_cons_succ, List.length_cons, List.length_nil, List.map_cons, List.map_nil, List.cons_append, List.nil_append, List.append_nil, List.take_succ_cons, List.take_zero, List.take_nil, List.drop_succ_cons, List.drop_zero, List.drop_nil, Option.map_some, ↓reduceIte, reduceCtorEq, Nat.reduceAdd, Nat.reduceLT, Nat.reduceBEq, Int.reduceLT, Int.reduceNeg, Int.reduceAdd, Int.reduceBEq, Nat.zero_add, true_and, and_self, Bool.true_and, Bool.and_self, beq_self_eq_true, Nat.le_refl, Try.vt27, Try.vt29, Try.vfield29x3, Try.vzero29, dec_t, ownD]
      refine vc_pure hbs rfl ?_
      simp (config := { maxSteps := 2000000 }) (implicitDefEqProofs := false) (disch := first | omega | assumption | (simp only []; done) | fail) only [vop_move, vcallee_move, vop_assign, vcallee_assign, vop_load, vcallee_load, vop_fieldAddr, vcallee_fieldAddr, vop_extract, vcallee_extract, vcallee_value, vcal_fn, strip_pv, strip_ptr, strip_tup, strip_fn, optV_none, ev_tmp, ev_func, put_some, at_mk, fits_some, ↓look_cons, ↓vlook_t, ↓vlook_f, guard_none, ↓vrun_nil, ↓code_region, ↓code_seq, ↓onNormal_normal, load_ptr, vld_one, blk_zero, faddr_ptr, vfap_some, ext_tup, evG_eq, ↓vrun_cons, ↓run1_some, ↓runG_true, ↓run2_none, ↓run2_some, ↓run3_some, ↓runK_eq, at_hp, List.map_nil, List.getElem?_cons_zero, List.getElem?_cons_succ, List.map_cons, List.map_nil, List.nil_append, List.append_nil, Option.map_some, ↓reduceIte, reduceCtorEq, Nat.reduceLT, Nat.reduceBEq, Int.reduceLT, Int.reduceNeg, Int.reduceBEq, Nat.zero_add, true_and, Bool.true_and, beq_self_eq_true, Try.vt27, Try.vfield29x3, dec_t]
      refine vc_new0 (cloneI_v r.bad (by omega)) rfl (cells_nums _ _ _) ?_
      simp (config := { maxSteps := 2000000 }) (implicitDefEqProofs := false) (disch := first | omega | assumption | (simp only []; done) | fail) only [vop_move, vcallee_move, vop_buildSlice, vcallee_buildSlice, vcallee_value, vcal_fn, strip_pv, strip_own, strip_fn, optV_none, ev_tmp, ev_func, put_some, at_mk, fits_some, ↓look_cons, ↓vlook_t, ↓vlook_f, guard_none, allOne_nil, allOne_cons, one_pv, parts_nil, parts_cons, evG_eq, ↓vrun_cons, ↓run1_some, ↓runG_true, ↓run2_none, ↓run2_some, ↓run3_some, ↓runK_eq, at_hp, List.map_nil, dcells, vfill, vbuildSlice, V.mk, V.splice, List.length_cons, List.length_nil, List.map_cons, List.map_nil, List.cons_append, List.nil_append, List.append_nil, List.take_zero, List.drop_succ_cons, List.drop_nil, Option.map_some, ↓reduceIte, Nat.reduceAdd, Nat.reduceLT, Nat.reduceLeDiff, Nat.reduceBEq, Int.reduceLT, Int.reduceNeg, Int.reduceAdd, Int.reduceBEq, Nat.zero_add, Nat.mul_one, true_and, and_self, Bool.true_and, Bool.and_self, beq_self_eq_true, Nat.le_refl, Try.vzero3, Try.velem27, dec_t]
      refine vc_newP [3, 4] [3, 4] hins rfl ⟨⟨by simp, cells_nums _ _ _⟩, ⟨by simp, rfl⟩, trivial⟩ (by decide) rfl rfl rfl (cells_nums _ _ _) ?_
      simp (config := { maxSteps := 2000000 }) (implicitDefEqProofs := false) (disch := first | omega | assumption | (simp only []; done) | fail) only [vop_move, vcallee_move, vop_load, vcallee_load, vop_store, vcallee_store, vop_unOp, vcallee_unOp, vop_fieldAddr, vcallee_fieldAddr, vcallee_value, vcal_fn, strip_pv, strip_ptr, strip_own, strip_agg, strip_fn, optV_none, ev_tmp, ev_func, put_some, put_none, at_mk, fits_some, fits_none, ↓look_cons, ↓vlook_t, ↓vlook_f, guard_none, ↓vrun_nil, ↓code_skip, ↓code_region, ↓code_seq, ↓onNormal_normal, load_ptr, vld_agg, store_ptr, vst_one, blk_zero, blk_succ, set_zero, set_succ, one_own, faddr_ptr, vfap_some, un_not, evG_eq, ↓vrun_cons, ↓run1_some, ↓runG_true, ↓run2_none, ↓run2_some, ↓run3_some, ↓runK_eq, ↓code_cond, ↓vtest_bool, ↓vbr_false, at_hp, List.map_nil, V.kill, kills, List.getElem?_cons_zero, List.getElem?_cons_succ, List.length_cons, List.length_nil, List.map_cons, List.map_nil, List.cons_append, List.nil_append, List.append_nil, List.take_succ_cons, List.take_nil, List.drop_zero, List.set_cons_zero, List.set_cons_succ, Option.map_some, ↓reduceIte, reduceCtorEq, Nat.reduceAdd, Nat.reduceLT, Nat.reduceBEq, Int.reduceLT, Int.reduceNeg, Int.reduceAdd, Int.reduceBEq, Nat.zero_add, true_and, and_self, Bool.not_true, Bool.true_and, Bool.and_self, beq_self_eq_true, Nat.le_refl, Try.vt27, Try.vt29, Try.vfield29x3, dec_t]
      refine vc_pure hfr rfl ?_
      cases ef : r.freeS with
      | nil =>
        simp (config := { maxSteps := 2000000 }) (implicitDefEqProofs := false) (disch := first | omega | assumption | (simp only []; done) | fail) only [vop_move, vcallee_move, vop_assign, vcallee_assign, vop_build, vcallee_build, vop_store, vcallee_store, vop_binOp, vcallee_binOp, vop_builtin, vcallee_builtin, bin2_int, strip_pv, strip_ptr, strip_agg, optV_none, ev_tmp, ev_const, ofConst_int, put_some, put_none, at_mk, fits_some, fits_none, ↓look_cons, ↓vlook_t, ↓vlook_f, guard_none, ↓vrun_nil, ↓code_region, ↓code_seq, ↓code_ret, ↓onNormal_normal, ↓onNormal_ret, frz_tup, frzT_agg, frzT_pv, frz1_pv, allSome_nil, allSome_cons, frzHeap_zero, res_two, vres_tmp, vres_cell, load_ptr, vld_agg, store_ptr, vst_agg, blk_zero, blk_succ, set_zero, set_succ, allOne_nil, allOne_cons, one_pv, bin_int, int_eql, len_sl, vlk_sl, bi_len, parts_nil, evG_eq, ↓vrun_cons, ↓run1_some, ↓runG_true, ↓run2_none, ↓run3_some, ↓runK_eq, ↓code_cond, ↓vtest_bool, ↓vbr_true, ↓vpost_ret, vfin_some, vfin2_some, at_hp, List.map_nil, vbuild, vfill, V.splice, List.length_cons, List.length_nil, List.map_cons, List.map_nil, List.nil_append, List.append_nil, List.take_succ_cons, List.take_zero, List.take_nil, List.drop_succ_cons, List.drop_zero, List.drop_nil, Option.map_some, ↓reduceIte, Nat.reduceAdd, Nat.reduceLT, Nat.reduceBEq, Int.reduceLT, Int.reduceAdd, Int.reduceBEq, Nat.zero_add, true_and, and_self, Bool.true_and, Bool.and_self, beq_self_eq_true, Nat.le_refl, fz_len, RetW, DV.wk, DV.wk.go, PV.wk, Try.vkind27, Try.vt29, Try.vplaces29, Try.vzero29, dec_t, int_beq_t, DV.nums, DV.nums.go]
        rfl
      | cons f fs =>
        have hf0 : (fz encI (f :: fs))[0]? = some [.lit (.int .i64 f)] := rfl
        simp (config := { maxSteps := 2000000 }) (implicitDefEqProofs := false) (disch := first | omega | assumption | (simp only []; done) | fail) only [vop_move, vcallee_move, vop_assign, vcallee_assign, vop_load, vcallee_load, vop_binOp, vcallee_binOp, vop_builtin, vcallee_builtin, vcallee_value, vcal_fn, bin2_int, strip_pv, strip_ptr, strip_agg, strip_fn, optV_none, ev_tmp, ev_const, ev_func, ofConst_int, put_some, at_mk, fits_some, ↓look_cons, ↓vlook_t, ↓vlook_f, guard_none, ↓vrun_nil, ↓code_skip, ↓code_region, ↓code_seq, ↓onNormal_normal, load_ptr, vld_agg, blk_zero, bin_int, int_eql, len_sl, vlk_sl, bi_len, evG_eq, ↓vrun_cons, ↓run1_some, ↓runG_true, ↓run2_none, ↓run2_some, ↓run3_some, ↓runK_eq, ↓code_cond, ↓vtest_bool, ↓vbr_false, at_hp, List.map_nil, List.length_cons, List.length_nil, List.map_cons, List.map_nil, List.nil_append, List.append_nil, List.take_succ_cons, List.take_nil, List.drop_zero, Option.map_some, ↓reduceIte, Nat.reduceAdd, Nat.reduceLT, Nat.reduceBEq, Int.reduceLT, Int.reduceAdd, Int.reduceBEq, Nat.zero_add, true_and, Bool.true_and, beq_self_eq_true, Nat.le_refl, fz_len, Try.vkind27, Try.vt29, dec_t, int_beq_f]
        refine vc_pure hpl rfl ?_
        simp (config := { maxSteps := 2000000 }) (implicitDefEqProofs := false) (disch := first | omega | assumption | (simp only []; done) | fail) only [vop_move, vcallee_move, vop_assign, vcallee_assign, vop_load, vcallee_load, vop_fieldAddr, vcallee_fieldAddr, vop_extract, vcallee_extract, vcallee_value, vcal_fn, strip_pv, strip_ptr, strip_tup, strip_fn, optV_none, ev_tmp, ev_func, put_some, at_mk, fits_some, ↓look_cons, ↓vlook_t, ↓vlook_f, guard_none, ↓vrun_nil, ↓code_region, ↓code_seq, ↓onNormal_normal, load_ptr, vld_one, blk_zero, faddr_ptr, vfap_some, ext_tup, evG_eq, ↓vrun_cons, ↓run1_some, ↓runG_true, ↓run2_none, ↓run2_some, ↓run3_some, ↓runK_eq, at_hp, List.map_nil, List.getElem?_cons_zero, List.getElem?_cons_succ, List.map_cons, List.map_nil, List.nil_append, List.append_nil, Option.map_some, ↓reduceIte, reduceCtorEq, Nat.reduceLT, Nat.reduceBEq, Int.reduceLT, Int.reduceBEq, Nat.zero_add, true_and, Bool.true_and, beq_self_eq_true, Try.vt26, Try.vfield29x2, dec_t]
        refine vc_new0 (cloneP_v r.places (by omega)) rfl (cells_nums _ _ _) ?_
        by_cases hp : pfound r.places n = true
        · have hlt : plo r.places n < r.places.length := by
            unfold pfound at hp
            cases hx : r.places[plo r.places n]? with
            | none => rw [hx] at hp; simp at hp
            | some p => exact (List.getElem?_eq_some_iff.1 hx).1
          have hset := cells_setPx r.places (plo r.places n) ⟨n, f⟩ hlt
          dsimp only at hset
          have hsl : (r.places.set (plo r.places n) ⟨n, f⟩).length = r.places.length := List.length_set
          have hfp := fun n' hp' => frzC_P (n := n') (hp := hp') hsl
          have hfi := fun n hp => frzC_I (n := n) (hp := hp) hil
          rw [insB] at hfi
          simp (config := { maxSteps := 2000000 }) (implicitDefEqProofs := false) (disch := first | omega | assumption | (simp only []; done) | fail) only [vop_move, vcallee_move, vop_store, vcallee_store, vop_unOp, vcallee_unOp, vop_fieldAddr, vcallee_fieldAddr, strip_pv, strip_ptr, strip_own, optV_none, ev_tmp, put_some, put_none, at_mk, fits_some, fits_none, ↓look_cons, ↓vlook_t, ↓vlook_f, guard_none, ↓vrun_nil, ↓code_skip, ↓code_region, ↓code_draw, ↓code_seq, ↓onNormal_normal, store_ptr, vst_one, blk_zero, blk_succ, set_zero, set_succ, one_own, faddr_ptr, vfap_some, un_not, evG_eq, ↓vrun_cons, ↓run1_some, ↓runG_true, ↓run2_none, ↓run3_some, ↓runK_eq, ↓code_cond, ↓vtest_bool, ↓vbr_false, at_hp, List.length_cons, List.length_nil, List.cons_append, List.nil_append, List.set_cons_zero, List.set_cons_succ, Option.map_some, ↓reduceIte, reduceCtorEq, Nat.reduceAdd, Nat.reduceLT, Nat.reduceBEq, Int.reduceLT, Int.reduceAdd, Int.reduceBEq, Nat.zero_add, true_and, and_self, Bool.not_true, Bool.true_and, Bool.and_self, beq_self_eq_true, Try.vt26, Try.vfield29x2, dec_t, hp]
          refine vdraw (by kernel_rfl) (by kernel_rfl) ?_
          have hb2 : plo r.places n * 2 + 2 ≤ r.places.length * 2 := by omega
          rw [setP, if_pos hp]
          simp (config := { maxSteps := 2000000 }) (implicitDefEqProofs := false) (disch := first | omega | assumption | (simp only [List.length_cons, List.length_nil, Nat.zero_add]; done) | fail) only [vop_move, vcallee_move, okKind_move, foot_move, vop_assign, vcallee_assign, vop_build, vcallee_build, okKind_build, foot_build, vop_load, vcallee_load, okKind_load, vop_store, vcallee_store, okKind_store, vop_fieldAddr, vcallee_fieldAddr, okKind_fieldAddr, foot_fieldAddr, vop_indexAddr, vcallee_indexAddr, okKind_indexAddr, foot_indexAddr, foot_load, foot_store, ptrNo_ptr, ptrNo_ip, strip_pv, strip_ptr, strip_own, strip_ip, strip_agg, optV_none, ev_tmp, ev_const, ofConst_int, put_some, put_none, at_mk, fits_some, fits_none, ↓look_cons, ↓vlook_t, ↓vlook_f, guard_none, ↓vrun_nil, ↓vdr_nil, ↓code_region, ↓code_seq, ↓code_ret, ↓onNormal_normal, frz_tup, frzT_agg, frzT_pv, frz1_pv, frz1_own, allSome_nil, allSome_cons, frzHeap_zero, res_two, vres_tmp, vres_cell, load_ptr, load_ip, vld_one, vld_agg, vldp_one, store_ptr, vst_agg, blk_zero, blk_succ, set_zero, set_succ, allOne_nil, allOne_cons, one_pv, one_own, faddr_ptr, vfap_some, iaddr_sl, vias_some, iaddr_own, viao_some, parts_nil, parts_cons, okc_nil, okc_none, okc_other, okc_one, evG_eq, ↓vrun_cons, ↓run1_some, ↓runG_true, ↓run2_none, ↓run3_some, ↓vdr_cons, ↓dr1_some, ↓drG_true, ↓dr2_none, ↓dr3_some, ↓vpost_ret, vfin_some, vfin2_some, at_hp, List.map_nil, dcells, vbuild, vfill, V.splice, List.getElem?_cons_zero, List.getElem?_cons_succ, List.length_cons, List.length_nil, List.map_cons, List.map_nil, List.cons_append, List.nil_append, List.append_nil, List.take_succ_cons, List.take_zero, List.take_nil, List.drop_succ_cons, List.drop_zero, List.drop_nil, List.any_nil, List.any_cons, Option.map_some, ↓reduceIte, reduceCtorEq, Nat.reduceAdd, Nat.reduceLT, Nat.reduceLeDiff, Nat.reduceBEq, Int.reduceToNat, Int.reduceLT, Int.reduceAdd, Int.reduceBEq, Int.toNat_natCast, Nat.zero_add, true_and, and_true, and_self, and_false, true_or, or_true, or_false, false_or, or_self, Bool.not_false, Bool.or_true, Bool.true_or, Bool.or_false, Bool.false_or, Bool.and_true, Bool.true_and, Bool.and_false, Bool.or_self, Bool.and_self, beq_self_eq_true, Nat.le_refl, frzP_own, RetW, DV.wk, DV.wk.go, PV.wk, Try.vt3, Try.vt26, Try.velem26, Try.velem27, Try.vt29, Try.vfield29x2, Try.vt73, Try.vplaces73, Try.vzero73, dec_t, DV.nums, DV.nums.go, hf0, cellsP_len, hb2, hset, hfp, hfi]
          rfl
        · have hp' : pfound r.places n = false := by simpa using hp
          have hcp : (r.places.take (plo r.places n) ++ (⟨0, 0⟩ : Pl) :: r.places.drop (plo r.places n)).length = r.places.length + 1 := by simp; omega
          have hlt : plo r.places n < (r.places.take (plo r.places n) ++ (⟨0, 0⟩ : Pl) :: r.places.drop (plo r.places n)).length := by omega
          have hset := cells_setPx _ _ ⟨n, f⟩ hlt
          have hst : (r.places.take (plo r.places n) ++ (⟨0, 0⟩ : Pl) :: r.places.drop (plo r.places n)).set (plo r.places n) ⟨n, f⟩ = r.places.take (plo r.places n) ++ (⟨n, f⟩ : Pl) :: r.places.drop (plo r.places n) := by
            rw [List.set_append_right _ _ (by rw [List.length_take]; omega)]
            simp [Nat.min_eq_left hplo]
          rw [hst] at hset
          dsimp only at hset
          simp (config := { maxSteps := 2000000 }) (implicitDefEqProofs := false) (disch := first | omega | assumption | (simp only []; done) | fail) only [vop_move, vcallee_move, vop_build, vcallee_build, vop_buildSlice, vcallee_buildSlice, vop_load, vcallee_load, vop_store, vcallee_store, vop_unOp, vcallee_unOp, vop_fieldAddr, vcallee_fieldAddr, vcallee_value, vcal_fn, strip_pv, strip_ptr, strip_own, strip_agg, strip_fn, optV_none, ev_tmp, ev_func, put_some, put_none, at_mk, fits_some, fits_none, ↓look_cons, ↓vlook_t, ↓vlook_f, guard_none, ↓vrun_nil, ↓code_region, ↓code_seq, ↓onNormal_normal, load_ptr, vld_one, store_ptr, vst_one, blk_zero, blk_succ, set_zero, set_succ, allOne_nil, allOne_cons, one_pv, one_own, faddr_ptr, vfap_some, un_not, parts_nil, parts_cons, evG_eq, ↓vrun_cons, ↓run1_some, ↓runG_true, ↓run2_none, ↓run2_some, ↓run3_some, ↓runK_eq, ↓code_cond, ↓vtest_bool, ↓vbr_true, at_hp, List.map_nil, dcells, vbuild, vfill, vbuildSlice, V.mk, V.splice, List.getElem?_cons_zero, List.getElem?_cons_succ, List.length_cons, List.length_nil, List.map_cons, List.map_nil, List.cons_append, List.nil_append, List.append_nil, List.take_zero, List.drop_succ_cons, List.drop_nil, List.set_cons_zero, List.set_cons_succ, Option.map_some, ↓reduceIte, reduceCtorEq, Nat.reduceAdd, Nat.reduceLT, Nat.reduceLeDiff, Nat.reduceBEq, Int.reduceLT, Int.reduceAdd, Int.reduceBEq, Nat.zero_add, Nat.zero_mul, Nat.one_mul, true_and, and_self, Bool.not_false, Bool.true_and, Bool.and_self, beq_self_eq_true, Nat.le_refl, Try.vt26, Try.velem26, Try.vfield29x2, Try.vplaces73, Try.vzero73, dec_t, hp']
          refine vc_newP [6, 7] [6, 7] (insertP_v r.places ⟨0, 0⟩ (plo r.places n) hplo (by omega)) rfl ⟨⟨by simp, cells_nums _ _ _⟩, ⟨by simp, rfl⟩, trivial⟩ (by decide) rfl rfl rfl (cells_nums _ _ _) ?_
          simp (config := { maxSteps := 2000000 }) (implicitDefEqProofs := false) (disch := first | omega | assumption | (simp only []; done) | fail) only [vop_store, vcallee_store, vop_fieldAddr, vcallee_fieldAddr, strip_ptr, strip_own, optV_none, ev_tmp, put_some, put_none, at_mk, fits_some, fits_none, ↓look_cons, ↓vlook_t, ↓vlook_f, guard_none, ↓vrun_nil, ↓code_draw, ↓code_seq, ↓onNormal_normal, store_ptr, vst_one, blk_zero, blk_succ, set_zero, set_succ, one_own, faddr_ptr, vfap_some, evG_eq, ↓vrun_cons, ↓run1_some, ↓runG_true, ↓run2_none, ↓run3_some, ↓runK_eq, at_hp, V.kill, kills, List.getElem?_cons_zero, List.getElem?_cons_succ, List.length_cons, List.length_nil, List.cons_append, List.nil_append, List.set_cons_zero, List.set_cons_succ, Option.map_some, ↓reduceIte, reduceCtorEq, Nat.reduceAdd, Nat.reduceLT, Nat.reduceBEq, Int.reduceLT, Int.reduceAdd, Int.reduceBEq, Nat.zero_add, true_and, and_self, Bool.true_and, Bool.and_self, beq_self_eq_true, Try.vt26, Try.vfield29x2, dec_t]
          refine vdraw (by kernel_rfl) (by kernel_rfl) ?_
          have hb2 : plo r.places n * 2 + 2 ≤ (r.places.length + 1) * 2 := by omega
          have hsl : (r.places.take (plo r.places n) ++ (⟨n, f⟩ : Pl) :: r.places.drop (plo r.places n)).length = r.places.length + 1 := by simp; omega
          have hfp := fun n' hp' => frzC_P (n := n') (hp := hp') hsl
          have hfi := fun n hp => frzC_I (n := n) (hp := hp) hil
          rw [insB] at hfi
          rw [setP, if_neg hp]
          simp (config := { maxSteps := 2000000 }) (implicitDefEqProofs := false) (disch := first | omega | assumption | (simp only [List.length_cons, List.length_nil, Nat.zero_add]; done) | fail) only [vop_move, vcallee_move, okKind_move, foot_move, vop_assign, vcallee_assign, vop_build, vcallee_build, okKind_build, foot_build, vop_load, vcallee_load, okKind_load, vop_store, vcallee_store, okKind_store, vop_fieldAddr, vcallee_fieldAddr, okKind_fieldAddr, foot_fieldAddr, vop_indexAddr, vcallee_indexAddr, okKind_indexAddr, foot_indexAddr, foot_load, foot_store, ptrNo_ptr, ptrNo_ip, strip_pv, strip_ptr, strip_own, strip_ip, strip_agg, optV_none, ev_tmp, ev_const, ofConst_int, put_some, put_none, at_mk, fits_some, fits_none, ↓look_cons, ↓vlook_t, ↓vlook_f, guard_none, ↓vrun_nil, ↓vdr_nil, ↓code_region, ↓code_seq, ↓code_ret, ↓onNormal_normal, frz_tup, frzT_agg, frzT_pv, frz1_pv, frz1_own, allSome_nil, allSome_cons, frzHeap_zero, res_two, vres_tmp, vres_cell, load_ptr, load_ip, vld_one, vld_agg, vldp_one, store_ptr, vst_agg, blk_zero, blk_succ, set_zero, set_succ, allOne_nil, allOne_cons, one_pv, one_own, faddr_ptr, vfap_some, iaddr_sl, vias_some, iaddr_own, viao_some, parts_nil, parts_cons, okc_nil, okc_none, okc_other, okc_one, evG_eq, ↓vrun_cons, ↓run1_some, ↓runG_true, ↓run2_none, ↓run3_some, ↓vdr_cons, ↓dr1_some, ↓drG_true, ↓dr2_none, ↓dr3_some, ↓vpost_ret, vfin_some, vfin2_some, at_hp, List.map_nil, dcells, vbuild, vfill, V.splice, List.getElem?_cons_zero, List.getElem?_cons_succ, List.length_cons, List.length_nil, List.map_cons, List.map_nil, List.cons_append, List.nil_append, List.append_nil, List.take_succ_cons, List.take_zero, List.take_nil, List.drop_succ_cons, List.drop_zero, List.drop_nil, List.any_nil, List.any_cons, Option.map_some, ↓reduceIte, reduceCtorEq, Nat.reduceAdd, Nat.reduceLT, Nat.reduceLeDiff, Nat.reduceBEq, Int.reduceToNat, Int.reduceLT, Int.reduceAdd, Int.reduceBEq, Int.toNat_natCast, Nat.zero_add, true_and, and_true, and_self, and_false, true_or, or_true, or_false, false_or, or_self, Bool.not_false, Bool.or_true, Bool.true_or, Bool.or_false, Bool.false_or, Bool.and_true, Bool.true_and, Bool.and_false, Bool.or_self, Bool.and_self, beq_self_eq_true, Nat.le_refl, frzP_own, RetW, DV.wk, DV.wk.go, PV.wk, Try.vt3, Try.vt26, Try.velem26, Try.velem27, Try.vt29, Try.vfield29x2, Try.vt73, Try.vplaces73, Try.vzero73, dec_t, DV.nums, DV.nums.go, hf0, cellsP_len, hcp, hb2, hset, hfp, hfi]
          rfl
  · have ho' : r.okB = false := by simpa using ho
    rw [if_neg ho]
    rw [ho'] at hv
    simp (config := { maxSteps := 2000000 }) (implicitDefEqProofs := false) (disch := first | omega | assumption | (simp only []; done) | fail) only [vop_assign, vcallee_assign, vop_alloc, vcallee_alloc, vop_box, vcallee_box, vop_load, vcallee_load, vcallee_value, vcal_fn, strip_pv, strip_ptr, strip_agg, strip_fn, optV_none, ev_tmp, ev_const, ev_func, ofConst_int, put_some, at_mk, fits_some, ↓look_cons, ↓vlook_t, ↓vlook_f, guard_none, ↓vrun_nil, ↓code_region, ↓code_seq, ↓code_block, ↓onNormal_normal, load_ptr, vld_agg, blk_zero, box_eq, alloc_eq, val1_some, allOne_nil, allOne_cons, one_pv, enum_nil, enum_cons, evG_eq, ↓vrun_cons, ↓run1_some, ↓runG_true, ↓run2_none, ↓run2_some, ↓run3_some, at_hp, List.map_nil, dcells, List.toList_toArray, List.length_cons, List.length_nil, List.map_cons, List.map_nil, List.cons_append, List.nil_append, List.append_nil, List.take_succ_cons, List.take_nil, List.drop_zero, Option.map_some, ↓reduceIte, Nat.reduceAdd, Nat.reduceLT, Nat.reduceBEq, Int.reduceLT, Int.reduceNeg, Int.reduceAdd, Int.reduceBEq, Nat.zero_add, true_and, and_self, Bool.true_and, Bool.and_self, beq_self_eq_true, Nat.le_refl, Try.vt29, Try.vzero29, dec_t, Try.f23, Rm.d]
    refine vc_pure hv rfl ?_
    simp (config := { maxSteps := 2000000 }) (implicitDefEqProofs := false) (disch := first | omega | assumption | (simp only []; done) | fail) only [vop_assign, vcallee_assign, vop_build, vcallee_build, vop_store, vcallee_store, vop_unOp, vcallee_unOp, strip_pv, strip_ptr, strip_agg, optV_none, ev_tmp, ev_const, ofConst_int, put_some, put_none, at_mk, fits_some, fits_none, ↓look_cons, ↓vlook_t, ↓vlook_f, guard_none, ↓vrun_nil, ↓code_region, ↓code_seq, ↓code_ret, ↓onNormal_normal, ↓onNormal_ret, ↓onBlock_ret, frz_tup, frzT_agg, frzT_pv, frz1_pv, allSome_nil, allSome_cons, frzHeap_zero, res_two, vres_tmp, vres_cell, load_ptr, vld_agg, store_ptr, vst_agg, blk_zero, blk_succ, set_zero, set_succ, allOne_nil, allOne_cons, one_pv, un_not, parts_nil, evG_eq, ↓vrun_cons, ↓run1_some, ↓runG_true, ↓run2_none, ↓run3_some, ↓runK_eq, ↓code_cond, ↓vtest_bool, ↓vbr_true, ↓vpost_ret, vfin_some, vfin2_some, at_hp, List.map_nil, vbuild, vfill, V.splice, List.length_cons, List.length_nil, List.map_cons, List.map_nil, List.nil_append, List.append_nil, List.take_succ_cons, List.take_zero, List.take_nil, List.drop_succ_cons, List.drop_zero, List.drop_nil, Option.map_some, ↓reduceIte, Nat.reduceAdd, Nat.reduceLT, Nat.reduceBEq, Int.reduceLT, Int.reduceNeg, Int.reduceAdd, Int.reduceBEq, Nat.zero_add, true_and, and_self, Bool.not_false, Bool.true_and, Bool.and_self, beq_self_eq_true, Nat.le_refl, RetW, DV.wk, DV.wk.go, PV.wk, Try.vt29, Try.vplaces29, Try.vzero29, dec_t, DV.nums, DV.nums.go]
    rfl
end Go.Proofs.Ytjjjlkjhojdnnaa

namespace Go.Proofs.Ytjjjlkjhojdnnaa
open Go.V Go
set_option maxRecDepth 100000
set_option linter.unusedSimpArgs false

theorem awake_v : VCalls Try.prog 9 [] [] (Ret (.bool true)) := by
  refine vcalls_drop (fn := Try.f9) Try.func9 rfl (by kernel_rfl) (by simp [Try.f9]) ?_
  have h1 := new_v 4 1
  rw [if_pos (by kernel_rfl : (⟨4, 1, [], []⟩ : Rm).okB = true)] at h1
  have h2 := mark_v ⟨4, 1, [], []⟩ ⟨by simp, by simp⟩ 2
  rw [(by kernel_rfl : (⟨4, 1, [], []⟩ : Rm).markS 2 = (⟨4, 1, [⟨2, 4⟩], [2]⟩, 2, 0))] at h2
  have h3 := where_v ⟨4, 1, [⟨2, 4⟩], [2]⟩ ⟨by simp, by simp⟩ 2
  rw [if_pos (by kernel_rfl : (⟨4, 1, [⟨2, 4⟩], [2]⟩ : Rm).okB = true), if_neg (by simp), (by kernel_rfl : (⟨4, 1, [⟨2, 4⟩], [2]⟩ : Rm).whereS 2 = 4)] at h3
  have h4 := mark_v ⟨4, 1, [⟨2, 4⟩], [2]⟩ ⟨by simp, by simp⟩ 3
  rw [(by kernel_rfl : (⟨4, 1, [⟨2, 4⟩], [2]⟩ : Rm).markS 3 = (Rm0, 0, 47))] at h4
  dsimp only at h2 h4
  simp (config := { maxSteps := 2000000 }) (implicitDefEqProofs := false) (disch := first | omega | assumption | (simp only []; done) | fail) only [vop_assign, vcallee_assign, vcallee_value, vcal_fn, strip_pv, strip_fn, optV_none, ev_const, ev_func, ofConst_int, ofConst_bool, put_some, at_mk, fits_some, guard_none, ↓vrun_nil, ↓code_region, ↓code_seq, ↓onNormal_normal, enum_nil, evG_eq, ↓vrun_cons, ↓run1_some, ↓runG_true, ↓run2_none, ↓run2_some, ↓run3_some, List.map_nil, List.toList_toArray, List.length_nil, List.map_cons, List.map_nil, List.nil_append, List.append_nil, Nat.reduceLT, Int.reduceLT, true_and, Bool.true_and, dec_t, Try.f9]
  refine vc_pure h1 rfl ?_
  simp (config := { maxSteps := 2000000 }) (implicitDefEqProofs := false) (disch := first | omega | assumption | (simp only []; done) | fail) only [vop_move, vcallee_move, vop_assign, vcallee_assign, vop_alloc, vcallee_alloc, vop_load, vcallee_load, vop_store, vcallee_store, vop_extract, vcallee_extract, vcallee_value, vcal_fn, strip_pv, strip_ptr, strip_agg, strip_tup, strip_fn, optV_none, ev_tmp, ev_const, ev_func, ofConst_int, put_some, put_none, at_mk, fits_some, fits_none, ↓look_cons, ↓vlook_t, ↓vlook_f, guard_none, ↓vrun_nil, ↓code_region, ↓code_seq, ↓onNormal_normal, load_ptr, vld_agg, store_ptr, vst_agg, blk_zero, set_zero, alloc_eq, val1_some, allOne_nil, allOne_cons, one_pv, ext_tup, evG_eq, ↓vrun_cons, ↓run1_some, ↓runG_true, ↓run2_none, ↓run2_some, ↓run3_some, ↓runK_eq, at_hp, List.map_nil, V.splice, List.getElem?_cons_zero, List.getElem?_cons_succ, List.length_cons, List.length_nil, List.map_cons, List.map_nil, List.nil_append, List.append_nil, List.take_succ_cons, List.take_zero, List.take_nil, List.drop_succ_cons, List.drop_zero, List.drop_nil, Option.map_some, ↓reduceIte, Nat.reduceAdd, Nat.reduceLT, Nat.reduceBEq, Int.reduceLT, Int.reduceAdd, Int.reduceBEq, Nat.zero_add, true_and, and_self, Bool.true_and, Bool.and_self, beq_self_eq_true, Nat.le_refl, Try.vt29, Try.vzero29, dec_t, Rm.d]
  refine vc_pure h2 rfl ?_
  simp (config := { maxSteps := 2000000 }) (implicitDefEqProofs := false) (disch := first | omega | assumption | (simp only []; done) | fail) only [vop_move, vcallee_move, vop_assign, vcallee_assign, vop_load, vcallee_load, vop_store, vcallee_store, vop_extract, vcallee_extract, vcallee_value, vcal_fn, strip_pv, strip_ptr, strip_agg, strip_tup, strip_fn, optV_none, ev_tmp, ev_const, ev_func, ofConst_int, put_some, put_none, at_mk, fits_some, fits_none, ↓look_cons, ↓vlook_t, ↓vlook_f, guard_none, ↓vrun_nil, ↓code_region, ↓code_seq, ↓onNormal_normal, load_ptr, vld_agg, store_ptr, vst_agg, blk_zero, set_zero, allOne_nil, allOne_cons, one_pv, ext_tup, evG_eq, ↓vrun_cons, ↓run1_some, ↓runG_true, ↓run2_none, ↓run2_some, ↓run3_some, ↓runK_eq, at_hp, List.map_nil, V.splice, List.getElem?_cons_zero, List.getElem?_cons_succ, List.length_cons, List.length_nil, List.map_cons, List.map_nil, List.nil_append, List.append_nil, List.take_succ_cons, List.take_zero, List.take_nil, List.drop_succ_cons, List.drop_zero, List.drop_nil, Option.map_some, ↓reduceIte, Nat.reduceAdd, Nat.reduceLT, Nat.reduceBEq, Int.reduceLT, Int.reduceAdd, Int.reduceBEq, Nat.zero_add, true_and, and_self, Bool.true_and, Bool.and_self, beq_self_eq_true, Nat.le_refl, Try.vt29, dec_t, Rm.d, remD]
  refine vc_pure h3 rfl ?_
  simp (config := { maxSteps := 2000000 }) (implicitDefEqProofs := false) (disch := first | omega | assumption | (simp only []; done) | fail) only [vop_move, vcallee_move, vop_assign, vcallee_assign, vop_load, vcallee_load, vop_extract, vcallee_extract, vcallee_value, vcal_fn, strip_pv, strip_ptr, strip_agg, strip_tup, strip_fn, optV_none, ev_tmp, ev_const, ev_func, ofConst_int, put_some, at_mk, fits_some, ↓look_cons, ↓vlook_t, ↓vlook_f, guard_none, ↓vrun_nil, ↓code_region, ↓code_seq, ↓onNormal_normal, load_ptr, vld_agg, blk_zero, ext_tup, evG_eq, ↓vrun_cons, ↓run1_some, ↓runG_true, ↓run2_none, ↓run2_some, ↓run3_some, ↓runK_eq, at_hp, List.map_nil, List.getElem?_cons_zero, List.getElem?_cons_succ, List.length_cons, List.length_nil, List.map_cons, List.map_nil, List.nil_append, List.append_nil, List.take_succ_cons, List.take_nil, List.drop_zero, Option.map_some, ↓reduceIte, Nat.reduceAdd, Nat.reduceLT, Nat.reduceBEq, Int.reduceLT, Int.reduceAdd, Int.reduceBEq, Nat.zero_add, true_and, Bool.true_and, beq_self_eq_true, Nat.le_refl, Try.vt29, dec_t]
  refine vc_pure h4 rfl ?_
  simp (config := { maxSteps := 2000000 }) (implicitDefEqProofs := false) (disch := first | omega | assumption | (simp only []; done) | fail) only [vop_move, vcallee_move, vop_assign, vcallee_assign, vop_pick, vcallee_pick, vop_alloc, vcallee_alloc, vop_store, vcallee_store, vop_binOp, vcallee_binOp, vop_extract, vcallee_extract, bin2_int, vpick_bool, strip_pv, strip_ptr, strip_agg, strip_tup, strip_opt, vstr_true, optV_none, optV_some, pickV_bool, ev_tmp, ev_const, ofConst_int, ofConst_bool, put_some, put_none, at_mk, fits_some, fits_none, ↓look_cons, ↓vlook_t, ↓vlook_f, guard_none, guard_some, vgof_bool, ↓vrun_nil, ↓code_region, ↓code_seq, ↓code_ret, ↓onNormal_normal, frz_pv, frzHeap_zero, res_one, vres_tmp, store_ptr, vst_agg, blk_zero, blk_succ, set_zero, set_succ, alloc_eq, val1_some, allOne_nil, allOne_cons, one_pv, bin_int, int_eql, ext_tup, evG_eq, ↓vrun_cons, ↓run1_some, ↓runG_true, ↓run2_none, ↓run3_some, ↓runK_eq, ↓vpost_ret, vfin_some, vfin2_some, at_hp, V.splice, List.getElem?_cons_zero, List.getElem?_cons_succ, List.length_cons, List.length_nil, List.cons_append, List.nil_append, List.append_nil, List.take_zero, List.drop_succ_cons, List.drop_nil, Option.map_some, Option.bind_some, ↓reduceIte, Nat.reduceAdd, Nat.reduceLT, Nat.reduceBEq, Int.reduceLT, Int.reduceAdd, Int.reduceBEq, Nat.zero_add, and_self, or_true, Bool.not_true, Bool.or_true, Bool.and_self, cond_true, beq_self_eq_true, Nat.le_refl, Try.vt29, Try.vzero29, dec_t, Ret, DV.nums, Rm.d, remD, Rm0]
end Go.Proofs.Ytjjjlkjhojdnnaa

namespace Go.Proofs.Ytjjjlkjhojdnnaa
open Go.V Go
set_option maxRecDepth 100000
set_option linter.unusedSimpArgs false

deriving instance DecidableEq for Pl
theorem fzP_at (l : List Pl) (i : Nat) (h : i < l.length) : (fz encP l)[i]? = some [.lit (.int .i64 l[i].pg), .lit (.int .i64 l[i].ad)] := fz_at encP l i h
theorem allEq_w (a b c d : Int) : allEq [.pv (.lit (.int .i64 a)), .pv (.lit (.int .i64 b))] [.pv (.lit (.int .i64 c)), .pv (.lit (.int .i64 d))] [(0, 1), (1, 1)] = some (decide (a = c) && decide (b = d)) := by
  simp [allEq, leafEq]
  rfl
deriving instance DecidableEq for Rm
set_option maxHeartbeats 4000000 in
theorem same_v (a b : Rm) (ha : a.sm) (hb : b.sm) : VCalls Try.prog 13 [.agg a.d, .agg b.d] [] (Ret (.bool (decide (a = b)))) := by
  refine vcalls_drop (fn := Try.f13) Try.func13 rfl (by kernel_rfl) (by simp [Try.f13]) ?_
  obtain ⟨p, s, l, m⟩ := a
  obtain ⟨p', s', l', m'⟩ := b
  obtain ⟨h1, h2⟩ := ha
  obtain ⟨h3, h4⟩ := hb
  dsimp only at h1 h2 h3 h4
  have hno : ∀ {x : Bool}, (¬ ((⟨p, s, l, m⟩ : Rm) = ⟨p', s', l', m'⟩) → x = false → x = decide ((⟨p, s, l, m⟩ : Rm) = ⟨p', s', l', m'⟩)) := fun h e => by rw [decide_eq_false h]; exact e
  by_cases e1 : p = p'
  · subst e1
    by_cases e2 : s = s'
    · subst e2
      by_cases e3 : l.length = l'.length
      · by_cases e4 : m.length = m'.length
        · simp (config := { maxSteps := 2000000 }) (implicitDefEqProofs := false) (disch := first | omega | assumption | (simp only []; done) | fail) only [vop_move, vcallee_move, vop_assign, vcallee_assign, vop_pick, vcallee_pick, vop_box, vcallee_box, vop_load, vcallee_load, vop_binOp, vcallee_binOp, vop_fieldAddr, vcallee_fieldAddr, vop_builtin, vcallee_builtin, bin2_tmp, vpick_bool, strip_pv, strip_ptr, strip_agg, strip_opt, vstr_true, optV_none, optV_some, pickV_bool, ev_tmp, ev_const, ofConst_int, ofConst_bool, put_some, at_mk, fits_some, ↓look_cons, ↓vlook_t, ↓vlook_f, guard_none, guard_some, vgof_bool, ↓vrun_nil, ↓code_skip, ↓code_region, ↓code_seq, ↓code_block, ↓code_loop, ↓onNormal_normal, load_ptr, vld_one, blk_zero, blk_succ, box_eq, allOne_nil, allOne_cons, one_pv, faddr_ptr, vfap_some, bin_int, int_neq, len_sl, vlk_sl, bi_len, enum_nil, enum_cons, evG_eq, ↓vrun_cons, ↓run1_some, ↓runG_true, ↓run2_none, ↓run3_some, ↓code_cond, ↓vtest_bool, ↓vbr_false, at_hp, List.map_nil, dcells, List.toList_toArray, List.getElem?_cons_zero, List.getElem?_cons_succ, List.length_cons, List.length_nil, List.map_cons, List.map_nil, List.cons_append, List.nil_append, Option.map_some, Option.bind_some, ↓reduceIte, reduceCtorEq, Nat.reduceAdd, Nat.reduceLT, Nat.reduceBEq, Int.reduceLT, Int.reduceAdd, Int.reduceBEq, Nat.zero_add, Nat.add_zero, true_and, and_self, or_true, Bool.not_true, Bool.not_false, Bool.or_true, Bool.true_and, Bool.and_self, cond_false, beq_self_eq_true, fz_len, Try.vt3, Try.vt26, Try.vkind26, Try.vt27, Try.vkind27, Try.vfield29x0, Try.vfield29x1, Try.vfield29x2, Try.vfield29x3, dec_t, int_bne_f, Try.f13, Rm.d, e3, e4]
          refine vloopW (fun s0 : Okay l'.length (fun i => decide (l.getD i ⟨0, 0⟩ = l'.getD i ⟨0, 0⟩)) => ⟨73, 0, [(5, .int .i64 s0.i), (4, .bool false), (3, .ptr 1 0), (2, .ptr 0 0)], [⟨29, true, Rm.d ⟨p, s, l, m⟩⟩, ⟨29, true, Rm.d ⟨p, s, l', m'⟩⟩]⟩) (fun s0 => l'.length - s0.i) (Okay.start _ _) (.inl (by refine ⟨rfl, rfl, by simp, ?_, ?_, .inr ⟨?_, ?_⟩⟩ <;> (repeat' apply And.intro) <;> first | rfl | trivial | (intro _; first | rfl | apply cells_refs))) ?_
          rintro s0
          simp (config := { maxSteps := 2000000 }) (implicitDefEqProofs := false) (disch := first | omega | assumption | (simp only []; done) | fail) only [vop_move, vcallee_move, vop_load, vcallee_load, vop_binOp, vcallee_binOp, vop_fieldAddr, vcallee_fieldAddr, vop_builtin, vcallee_builtin, bin2_tmp, strip_pv, strip_ptr, optV_none, ev_tmp, put_some, at_mk, fits_some, ↓look_cons, ↓vlook_t, ↓vlook_f, guard_none, ↓vrun_nil, ↓code_region, ↓code_seq, ↓onNormal_normal, load_ptr, vld_one, blk_zero, faddr_ptr, vfap_some, bin_int, int_lss, len_sl, vlk_sl, bi_len, evG_eq, ↓vrun_cons, ↓run1_some, ↓runG_true, ↓run2_none, ↓run3_some, ↓code_cond, ↓vtest_bool, at_hp, List.map_nil, List.getElem?_cons_zero, List.getElem?_cons_succ, List.map_cons, List.map_nil, Option.map_some, ↓reduceIte, reduceCtorEq, Nat.reduceLT, Nat.reduceBEq, Int.reduceLT, Int.reduceBEq, Nat.zero_add, true_and, Bool.true_and, beq_self_eq_true, fz_len, Try.vt26, Try.vkind26, Try.vfield29x2, dec_t, Rm.d, e3]
          refine vbr_split (fun hc => ?_) (fun hc => ?_) <;> simp only [decide_eq_true_eq, decide_eq_false_iff_not, Bool.or_eq_true, Bool.and_eq_true, Bool.or_eq_false_iff, Bool.and_eq_false_imp, Bool.not_eq_true', Bool.not_eq_false', beq_iff_eq, beq_eq_false_iff_ne, bne_iff_ne, bne_eq_false_iff_eq, ne_eq] at hc
          · have hlt : s0.i < l'.length := by omega
            have hg := fzP_at l s0.i (by omega)
            have hg' := fzP_at l' s0.i hlt
            have hd1 := getD_eq l s0.i (by omega) ⟨0, 0⟩
            have hd2 := getD_eq l' s0.i hlt ⟨0, 0⟩
            have hlt' : s0.i < l.length := by omega
            by_cases he : l.getD s0.i ⟨0, 0⟩ = l'.getD s0.i ⟨0, 0⟩
            · have hn : decide (l.getD s0.i ⟨0, 0⟩ = l'.getD s0.i ⟨0, 0⟩) = true := decide_eq_true he
              rw [hd1, hd2] at he
              rw [he] at hg
              simp (config := { maxSteps := 2000000 }) (implicitDefEqProofs := false) (disch := first | omega | assumption) only [↓code_skip, ↓code_draw, ↓code_seq, ↓code_block, ↓onNormal_normal, dec_t]
              refine vdraw (by kernel_rfl) (by kernel_rfl) ?_
              simp (config := { maxSteps := 2000000 }) (implicitDefEqProofs := false) (disch := first | omega | assumption | (simp only [List.length_cons, List.length_nil, Nat.zero_add, Nat.reduceAdd]; done) | fail) only [vop_move, vcallee_move, okKind_move, foot_move, vop_assign, vcallee_assign, vop_load, vcallee_load, okKind_load, vop_binOp, vcallee_binOp, okKind_binOp, foot_binOp, vop_fieldAddr, vcallee_fieldAddr, okKind_fieldAddr, foot_fieldAddr, vop_indexAddr, vcallee_indexAddr, okKind_indexAddr, foot_indexAddr, foot_load, ptrNo_ptr, ptrNo_ip, bin2_tmp, bin2_int, strip_pv, strip_ptr, strip_ip, strip_agg, optV_none, ev_tmp, ev_const, ofConst_int, put_some, at_mk, fits_some, ↓look_cons, ↓vlook_t, ↓vlook_f, guard_none, ↓vrun_nil, ↓vdr_nil, ↓code_skip, ↓code_region, ↓onNormal_normal, ↓onBlock_normal, load_ptr, load_ip, vld_one, vldp_agg, blk_zero, blk_succ, faddr_ptr, vfap_some, iaddr_sl, vias_some, bin_int, int_add, okc_nil, okc_none, okc_other, okc_one, evG_eq, ↓vrun_cons, ↓run1_some, ↓runG_true, ↓run2_none, ↓run3_some, ↓vdr_cons, ↓dr1_some, ↓drG_true, ↓dr2_none, ↓dr3_some, ↓code_cond, ↓vtest_bool, ↓vbr_false, at_hp, bin_agg, vba_neq, List.map_nil, List.getElem?_cons_zero, List.getElem?_cons_succ, List.length_cons, List.length_nil, List.map_cons, List.map_nil, List.cons_append, List.nil_append, List.take_succ_cons, List.take_nil, List.any_nil, List.any_cons, Option.map_some, ↓reduceIte, reduceCtorEq, Nat.reduceAdd, Nat.reduceLT, Nat.reduceBEq, Int.reduceLT, Int.reduceAdd, Int.reduceBEq, Int.toNat_natCast, Nat.zero_add, true_and, and_self, and_false, or_false, or_self, Bool.not_true, Bool.not_false, Bool.or_false, Bool.true_and, Bool.and_false, Bool.or_self, Bool.and_self, beq_self_eq_true, Nat.le_refl, Try.vt26, Try.velem26, Try.vfield29x2, Try.vt73, Try.leaves73, Try.eqg73, wrap_i64_in, dec_t, hg, hg', allEq_w]
              exact ⟨s0.next hlt hn, by show l'.length - (s0.i + 1) < l'.length - s0.i; omega, .inl (by refine ⟨rfl, rfl, by simp, ?_, ?_, .inr ⟨?_, ?_⟩⟩ <;> (repeat' apply And.intro) <;> first | rfl | trivial | (intro _; first | rfl | apply cells_refs))⟩
            · have hne : ¬ (⟨p, s, l, m⟩ : Rm) = ⟨p, s, l', m'⟩ := fun e => by cases e; exact he rfl
              rw [decide_eq_false hne]
              rw [hd1, hd2] at he
              generalize l[s0.i] = x at *
              generalize l'[s0.i] = y at *
              obtain ⟨x1, x2⟩ := x
              obtain ⟨y1, y2⟩ := y
              have he2 : (decide (x1 = y1) && decide (x2 = y2)) = false := by
                simp only [Pl.mk.injEq] at he
                by_cases z1 : x1 = y1 <;> by_cases z2 : x2 = y2 <;> simp [z1, z2] at he ⊢
              simp (config := { maxSteps := 2000000 }) (implicitDefEqProofs := false) (disch := first | omega | assumption) only [↓code_skip, ↓code_draw, ↓code_seq, ↓code_block, ↓onNormal_normal, dec_t]
              refine vdraw (by kernel_rfl) (by kernel_rfl) ?_
              simp (config := { maxSteps := 2000000 }) (implicitDefEqProofs := false) (disch := first | omega | assumption | (simp only [List.length_cons, List.length_nil, Nat.zero_add, Nat.reduceAdd]; done) | fail) only [vop_move, vcallee_move, okKind_move, foot_move, vop_assign, vcallee_assign, vop_load, vcallee_load, okKind_load, vop_binOp, vcallee_binOp, okKind_binOp, foot_binOp, vop_fieldAddr, vcallee_fieldAddr, okKind_fieldAddr, foot_fieldAddr, vop_indexAddr, vcallee_indexAddr, okKind_indexAddr, foot_indexAddr, foot_load, ptrNo_ptr, ptrNo_ip, bin2_tmp, strip_pv, strip_ptr, strip_ip, strip_agg, optV_none, ev_tmp, ev_const, ofConst_bool, put_some, at_mk, fits_some, ↓look_cons, ↓vlook_t, ↓vlook_f, guard_none, ↓vrun_nil, ↓vdr_nil, ↓code_region, ↓code_seq, ↓code_ret, ↓onNormal_normal, ↓onNormal_ret, ↓onBlock_ret, frz_pv, frzHeap_zero, res_one, vres_tmp, load_ptr, load_ip, vld_one, vldp_agg, blk_zero, blk_succ, faddr_ptr, vfap_some, iaddr_sl, vias_some, okc_nil, okc_none, okc_other, okc_one, evG_eq, ↓vrun_cons, ↓run1_some, ↓runG_true, ↓run2_none, ↓run3_some, ↓vdr_cons, ↓dr1_some, ↓drG_true, ↓dr2_none, ↓dr3_some, ↓code_cond, ↓vtest_bool, ↓vbr_true, ↓vpost_ret, vfin_some, vfin2_some, at_hp, bin_agg, vba_neq, List.map_nil, List.getElem?_cons_zero, List.getElem?_cons_succ, List.length_cons, List.length_nil, List.map_cons, List.map_nil, List.cons_append, List.nil_append, List.take_succ_cons, List.take_nil, List.any_nil, List.any_cons, Option.map_some, ↓reduceIte, reduceCtorEq, Nat.reduceAdd, Nat.reduceLT, Nat.reduceBEq, Int.reduceLT, Int.reduceAdd, Int.reduceBEq, Int.toNat_natCast, Nat.zero_add, and_self, and_false, or_false, or_self, Bool.not_false, Bool.or_false, Bool.and_false, Bool.or_self, Bool.and_self, beq_self_eq_true, Nat.le_refl, Try.vt26, Try.velem26, Try.vfield29x2, Try.vt73, Try.leaves73, Try.eqg73, dec_t, Ret, DV.nums, hg, hg', allEq_w, he2]
          · have hall := s0.all (by omega)
            have hll : l = l' := by
              refine List.ext_getElem e3 fun i h1 h2 => ?_
              rw [List.all_eq_true] at hall
              have := hall i (by rwa [List.mem_range])
              rwa [decide_eq_true_eq, getD_eq l i h1, getD_eq l' i h2] at this
            subst hll
            simp (config := { maxSteps := 2000000 }) (implicitDefEqProofs := false) (disch := first | omega | assumption | (simp only []; done) | fail) only [vop_assign, vcallee_assign, strip_pv, optV_none, ev_const, ofConst_int, put_some, at_mk, fits_some, guard_none, ↓vrun_nil, ↓code_region, ↓code_seq, ↓code_block, ↓code_loop, ↓code_exit, ↓onNormal_normal, ↓onNormal_exit, ↓onBlock_exit, evG_eq, ↓vrun_cons, ↓run1_some, ↓runG_true, ↓run2_none, ↓run3_some, ↓reduceIte, Nat.reduceLT, Int.reduceLT, true_and, Bool.true_and, dec_t, dec_f]
            refine vloopW (fun s1 : Okay m'.length (fun i => decide (m.getD i 0 = m'.getD i 0)) => ⟨73, 0, [(6, .int .i64 s1.i), (4, .bool false), (3, .ptr 1 0), (2, .ptr 0 0)], [⟨29, true, Rm.d ⟨p, s, l, m⟩⟩, ⟨29, true, Rm.d ⟨p, s, l, m'⟩⟩]⟩) (fun s1 => m'.length - s1.i) (Okay.start _ _) (.inl (by refine ⟨rfl, rfl, by simp, ?_, ?_, .inr ⟨?_, ?_⟩⟩ <;> (repeat' apply And.intro) <;> first | rfl | trivial | (intro _; first | rfl | apply cells_refs))) ?_
            rintro s1
            simp (config := { maxSteps := 2000000 }) (implicitDefEqProofs := false) (disch := first | omega | assumption | (simp only []; done) | fail) only [vop_move, vcallee_move, vop_load, vcallee_load, vop_binOp, vcallee_binOp, vop_fieldAddr, vcallee_fieldAddr, vop_builtin, vcallee_builtin, bin2_tmp, strip_pv, strip_ptr, optV_none, ev_tmp, put_some, at_mk, fits_some, ↓look_cons, ↓vlook_t, ↓vlook_f, guard_none, ↓vrun_nil, ↓code_region, ↓code_seq, ↓onNormal_normal, load_ptr, vld_one, blk_zero, faddr_ptr, vfap_some, bin_int, int_lss, len_sl, vlk_sl, bi_len, evG_eq, ↓vrun_cons, ↓run1_some, ↓runG_true, ↓run2_none, ↓run3_some, ↓code_cond, ↓vtest_bool, at_hp, List.map_nil, List.getElem?_cons_zero, List.getElem?_cons_succ, List.map_cons, List.map_nil, Option.map_some, ↓reduceIte, reduceCtorEq, Nat.reduceLT, Nat.reduceBEq, Int.reduceLT, Int.reduceBEq, Nat.zero_add, true_and, Bool.true_and, beq_self_eq_true, fz_len, Try.vt27, Try.vkind27, Try.vfield29x3, dec_t, Rm.d, e4]
            refine vbr_split (fun hc1 => ?_) (fun hc1 => ?_) <;> simp only [decide_eq_true_eq, decide_eq_false_iff_not, Bool.or_eq_true, Bool.and_eq_true, Bool.or_eq_false_iff, Bool.and_eq_false_imp, Bool.not_eq_true', Bool.not_eq_false', beq_iff_eq, beq_eq_false_iff_ne, bne_iff_ne, bne_eq_false_iff_eq, ne_eq] at hc1
            · have hlt : s1.i < m'.length := by omega
              have hlt' : s1.i < m.length := by omega
              have hg := fzI_get m s1.i (by omega)
              have hg' := fzI_get m' s1.i hlt
              by_cases he : m.getD s1.i 0 = m'.getD s1.i 0
              · have hn : decide (m.getD s1.i 0 = m'.getD s1.i 0) = true := decide_eq_true he
                rw [he] at hg
                simp (config := { maxSteps := 2000000 }) (implicitDefEqProofs := false) (disch := first | omega | assumption) only [↓code_skip, ↓code_draw, ↓code_seq, ↓code_block, ↓onNormal_normal, dec_t]
                refine vdraw (by kernel_rfl) (by kernel_rfl) ?_
                simp (config := { maxSteps := 2000000 }) (implicitDefEqProofs := false) (disch := first | omega | assumption | (simp only [List.length_cons, List.length_nil, Nat.zero_add]; done) | fail) only [vop_move, vcallee_move, okKind_move, foot_move, vop_assign, vcallee_assign, vop_load, vcallee_load, okKind_load, vop_binOp, vcallee_binOp, okKind_binOp, foot_binOp, vop_fieldAddr, vcallee_fieldAddr, okKind_fieldAddr, foot_fieldAddr, vop_indexAddr, vcallee_indexAddr, okKind_indexAddr, foot_indexAddr, foot_load, ptrNo_ptr, ptrNo_ip, bin2_tmp, bin2_int, strip_pv, strip_ptr, strip_ip, optV_none, ev_tmp, ev_const, ofConst_int, put_some, at_mk, fits_some, ↓look_cons, ↓vlook_t, ↓vlook_f, guard_none, ↓vrun_nil, ↓vdr_nil, ↓code_skip, ↓code_region, ↓onNormal_normal, ↓onBlock_normal, load_ptr, load_ip, vld_one, vldp_one, blk_zero, blk_succ, faddr_ptr, vfap_some, iaddr_sl, vias_some, bin_int, int_add, int_neq, okc_nil, okc_none, okc_other, okc_one, evG_eq, ↓vrun_cons, ↓run1_some, ↓runG_true, ↓run2_none, ↓run3_some, ↓vdr_cons, ↓dr1_some, ↓drG_true, ↓dr2_none, ↓dr3_some, ↓code_cond, ↓vtest_bool, ↓vbr_false, at_hp, List.getElem?_cons_zero, List.getElem?_cons_succ, List.cons_append, List.nil_append, List.any_nil, List.any_cons, Option.map_some, ↓reduceIte, reduceCtorEq, Nat.reduceAdd, Nat.reduceLT, Nat.reduceBEq, Int.reduceLT, Int.reduceAdd, Int.reduceBEq, Int.toNat_natCast, Nat.zero_add, true_and, and_self, and_false, or_false, or_self, Bool.not_false, Bool.or_false, Bool.true_and, Bool.and_false, Bool.or_self, Bool.and_self, beq_self_eq_true, Try.vt3, Try.vt27, Try.velem27, Try.vfield29x3, wrap_i64_in, dec_t, int_bne_f, hg, hg']
                exact ⟨s1.next hlt hn, by show m'.length - (s1.i + 1) < m'.length - s1.i; omega, .inl (by refine ⟨rfl, rfl, by simp, ?_, ?_, .inr ⟨?_, ?_⟩⟩ <;> (repeat' apply And.intro) <;> first | rfl | trivial | (intro _; first | rfl | apply cells_refs))⟩
              · have hne : ¬ (⟨p, s, l, m⟩ : Rm) = ⟨p, s, l, m'⟩ := fun e => by cases e; exact he rfl
                rw [decide_eq_false hne]
                simp (config := { maxSteps := 2000000 }) (implicitDefEqProofs := false) (disch := first | omega | assumption) only [↓code_skip, ↓code_draw, ↓code_seq, ↓code_block, ↓onNormal_normal, dec_t]
                refine vdraw (by kernel_rfl) (by kernel_rfl) ?_
                simp (config := { maxSteps := 2000000 }) (implicitDefEqProofs := false) (disch := first | omega | assumption | (simp only [List.length_cons, List.length_nil, Nat.zero_add]; done) | fail) only [vop_move, vcallee_move, okKind_move, foot_move, vop_assign, vcallee_assign, vop_load, vcallee_load, okKind_load, vop_binOp, vcallee_binOp, okKind_binOp, foot_binOp, vop_fieldAddr, vcallee_fieldAddr, okKind_fieldAddr, foot_fieldAddr, vop_indexAddr, vcallee_indexAddr, okKind_indexAddr, foot_indexAddr, foot_load, ptrNo_ptr, ptrNo_ip, bin2_tmp, strip_pv, strip_ptr, strip_ip, optV_none, ev_tmp, ev_const, ofConst_bool, put_some, at_mk, fits_some, ↓look_cons, ↓vlook_t, ↓vlook_f, guard_none, ↓vrun_nil, ↓vdr_nil, ↓code_region, ↓code_seq, ↓code_ret, ↓onNormal_normal, ↓onNormal_ret, ↓onBlock_ret, frz_pv, frzHeap_zero, res_one, vres_tmp, load_ptr, load_ip, vld_one, vldp_one, blk_zero, blk_succ, faddr_ptr, vfap_some, iaddr_sl, vias_some, bin_int, int_neq, okc_nil, okc_none, okc_other, okc_one, evG_eq, ↓vrun_cons, ↓run1_some, ↓runG_true, ↓run2_none, ↓run3_some, ↓vdr_cons, ↓dr1_some, ↓drG_true, ↓dr2_none, ↓dr3_some, ↓code_cond, ↓vtest_bool, ↓vbr_true, ↓vpost_ret, vfin_some, vfin2_some, at_hp, List.getElem?_cons_zero, List.getElem?_cons_succ, List.cons_append, List.nil_append, List.any_nil, List.any_cons, Option.map_some, ↓reduceIte, reduceCtorEq, Nat.reduceAdd, Nat.reduceLT, Nat.reduceBEq, Int.reduceLT, Int.reduceAdd, Int.reduceBEq, Int.toNat_natCast, Nat.zero_add, and_self, and_false, or_false, or_self, Bool.not_false, Bool.or_false, Bool.and_false, Bool.or_self, Bool.and_self, beq_self_eq_true, Try.vt3, Try.vt27, Try.velem27, Try.vfield29x3, dec_t, int_bne_t, Ret, DV.nums, hg, hg']
            · have hall := s1.all (by omega)
              have hmm : m = m' := by
                refine List.ext_getElem e4 fun i h1 h2 => ?_
                rw [List.all_eq_true] at hall
                have := hall i (by rwa [List.mem_range])
                rwa [decide_eq_true_eq, getD_eq m i h1, getD_eq m' i h2] at this
              subst hmm
              rw [decide_eq_true rfl]
              simp (config := { maxSteps := 2000000 }) (implicitDefEqProofs := false) (disch := first | omega | assumption | (simp only []; done) | fail) only [vop_assign, vcallee_assign, strip_pv, optV_none, ev_const, ofConst_bool, put_some, at_mk, fits_some, ↓look_cons, ↓vlook_t, guard_none, ↓vrun_nil, ↓code_region, ↓code_seq, ↓code_exit, ↓code_ret, ↓onNormal_normal, ↓onNormal_exit, ↓onBlock_exit, frz_pv, frzHeap_zero, res_one, vres_tmp, evG_eq, ↓vrun_cons, ↓run1_some, ↓runG_true, ↓run2_none, ↓run3_some, ↓vpost_ret, vfin_some, vfin2_some, at_hp, ↓reduceIte, Nat.reduceLT, Int.reduceLT, and_self, Bool.and_self, beq_self_eq_true, dec_t, dec_f, Ret, DV.nums]
        · have e5 : ¬ (⟨p, s, l, m⟩ : Rm) = ⟨p, s, l', m'⟩ := fun e => by cases e; exact e4 rfl
          rw [decide_eq_false e5]
          simp (config := { maxSteps := 2000000 }) (implicitDefEqProofs := false) (disch := first | omega | assumption | (simp only []; done) | fail) only [vop_move, vcallee_move, vop_assign, vcallee_assign, vop_pick, vcallee_pick, vop_box, vcallee_box, vop_load, vcallee_load, vop_binOp, vcallee_binOp, vop_fieldAddr, vcallee_fieldAddr, vop_builtin, vcallee_builtin, bin2_tmp, vpick_bool, strip_pv, strip_ptr, strip_agg, strip_opt, vstr_true, optV_none, optV_some, pickV_bool, ev_tmp, ev_const, ofConst_bool, put_some, at_mk, fits_some, ↓look_cons, ↓vlook_t, ↓vlook_f, guard_none, guard_some, vgof_bool, ↓vrun_nil, ↓code_region, ↓code_seq, ↓code_ret, ↓onNormal_normal, ↓onNormal_ret, frz_pv, frzHeap_zero, res_one, vres_tmp, load_ptr, vld_one, blk_zero, blk_succ, box_eq, allOne_nil, allOne_cons, one_pv, faddr_ptr, vfap_some, bin_int, int_neq, len_sl, vlk_sl, bi_len, enum_nil, enum_cons, evG_eq, ↓vrun_cons, ↓run1_some, ↓runG_true, ↓run2_none, ↓run3_some, ↓code_cond, ↓vtest_bool, ↓vbr_true, ↓vpost_ret, vfin_some, vfin2_some, at_hp, List.map_nil, dcells, List.toList_toArray, List.getElem?_cons_zero, List.getElem?_cons_succ, List.length_cons, List.length_nil, List.map_cons, List.map_nil, List.cons_append, List.nil_append, Option.map_some, Option.bind_some, ↓reduceIte, reduceCtorEq, Nat.reduceAdd, Nat.reduceLT, Nat.reduceBEq, Int.reduceLT, Int.reduceAdd, Int.reduceBEq, Nat.zero_add, Nat.add_zero, and_self, or_true, Bool.not_true, Bool.not_false, Bool.or_true, Bool.and_self, cond_false, Bool.cond_self, beq_self_eq_true, fz_len, Try.vt3, Try.vt26, Try.vkind26, Try.vt27, Try.vkind27, Try.vfield29x0, Try.vfield29x1, Try.vfield29x2, Try.vfield29x3, dec_t, int_bne_t, int_bne_f, Ret, DV.nums, Try.f13, Rm.d, e3]
      · have e5 : ¬ (⟨p, s, l, m⟩ : Rm) = ⟨p, s, l', m'⟩ := fun e => by cases e; exact e3 rfl
        rw [decide_eq_false e5]
        simp (config := { maxSteps := 2000000 }) (implicitDefEqProofs := false) (disch := first | omega | assumption | (simp only []; done) | fail) only [vop_move, vcallee_move, vop_assign, vcallee_assign, vop_pick, vcallee_pick, vop_box, vcallee_box, vop_load, vcallee_load, vop_binOp, vcallee_binOp, vop_fieldAddr, vcallee_fieldAddr, vop_builtin, vcallee_builtin, bin2_tmp, vpick_bool, strip_pv, strip_ptr, strip_agg, strip_tup, strip_opt, vstr_true, optV_none, optV_some, pickV_bool, ev_tmp, ev_const, ofConst_bool, put_some, at_mk, fits_some, ↓look_cons, ↓vlook_t, ↓vlook_f, guard_none, guard_some, vgof_bool, ↓vrun_nil, ↓code_region, ↓code_seq, ↓code_ret, ↓onNormal_normal, ↓onNormal_ret, frz_pv, frzHeap_zero, res_one, vres_tmp, load_ptr, vld_one, blk_zero, blk_succ, box_eq, allOne_nil, allOne_cons, one_pv, faddr_ptr, vfap_some, bin_int, int_neq, len_sl, vlk_sl, bi_len, enum_nil, enum_cons, evG_eq, ↓vrun_cons, ↓run1_some, ↓runG_true, ↓runG_false, ↓run2_none, ↓run3_some, ↓code_cond, ↓vtest_bool, ↓vbr_true, ↓vpost_ret, vfin_some, vfin2_some, at_hp, pickV_t, List.map_nil, dcells, List.toList_toArray, List.getElem?_cons_zero, List.getElem?_cons_succ, List.length_cons, List.length_nil, List.map_cons, List.map_nil, List.cons_append, List.nil_append, Option.map_some, Option.bind_some, ↓reduceIte, reduceCtorEq, Nat.reduceAdd, Nat.reduceLT, Nat.reduceBEq, Int.reduceLT, Int.reduceAdd, Int.reduceBEq, Nat.zero_add, Nat.add_zero, and_self, or_true, Bool.not_true, Bool.not_false, Bool.or_true, Bool.and_self, b_beq_f, cond_false, Bool.cond_self, beq_self_eq_true, fz_len, Try.vt3, Try.vt26, Try.vkind26, Try.vfield29x0, Try.vfield29x1, Try.vfield29x2, dec_t, int_bne_t, int_bne_f, Ret, DV.nums, Try.f13, Rm.d]
    · have e5 : ¬ (⟨p, s, l, m⟩ : Rm) = ⟨p, s', l', m'⟩ := fun e => by cases e; exact e2 rfl
      rw [decide_eq_false e5]
      simp (config := { maxSteps := 2000000 }) (implicitDefEqProofs := false) (disch := first | omega | assumption | (simp only []; done) | fail) only [vop_move, vcallee_move, vop_assign, vcallee_assign, vop_pick, vcallee_pick, vop_box, vcallee_box, vop_load, vcallee_load, vop_binOp, vcallee_binOp, vop_fieldAddr, vcallee_fieldAddr, bin2_tmp, vpick_bool, strip_pv, strip_ptr, strip_agg, strip_tup, strip_opt, vstr_true, optV_none, optV_some, pickV_bool, ev_tmp, ev_const, ofConst_bool, put_some, at_mk, fits_some, ↓look_cons, ↓vlook_t, ↓vlook_f, guard_none, guard_some, vgof_bool, ↓vrun_nil, ↓code_region, ↓code_seq, ↓code_ret, ↓onNormal_normal, ↓onNormal_ret, frz_pv, frzHeap_zero, res_one, vres_tmp, load_ptr, vld_one, blk_zero, blk_succ, box_eq, allOne_nil, allOne_cons, one_pv, faddr_ptr, vfap_some, bin_int, int_neq, enum_nil, enum_cons, evG_eq, ↓vrun_cons, ↓run1_some, ↓runG_true, ↓runG_false, ↓run2_none, ↓run3_some, ↓code_cond, ↓vtest_bool, ↓vbr_true, ↓vpost_ret, vfin_some, vfin2_some, at_hp, pickV_t, dcells, List.toList_toArray, List.getElem?_cons_zero, List.getElem?_cons_succ, List.length_cons, List.length_nil, List.cons_append, List.nil_append, Option.map_some, Option.bind_some, ↓reduceIte, reduceCtorEq, Nat.reduceAdd, Nat.reduceLT, Nat.reduceBEq, Int.reduceLT, Int.reduceAdd, Int.reduceBEq, Nat.zero_add, Nat.add_zero, and_self, or_true, Bool.not_true, Bool.not_false, Bool.or_true, Bool.and_self, b_beq_f, Bool.cond_self, beq_self_eq_true, Try.vt3, Try.vfield29x0, Try.vfield29x1, dec_t, int_bne_t, int_bne_f, Ret, DV.nums, Try.f13, Rm.d]
  · have e5 : ¬ (⟨p, s, l, m⟩ : Rm) = ⟨p', s', l', m'⟩ := fun e => by cases e; exact e1 rfl
    rw [decide_eq_false e5]
    simp (config := { maxSteps := 2000000 }) (implicitDefEqProofs := false) (disch := first | omega | assumption | (simp only []; done) | fail) only [vop_move, vcallee_move, vop_assign, vcallee_assign, vop_pick, vcallee_pick, vop_box, vcallee_box, vop_load, vcallee_load, vop_binOp, vcallee_binOp, vop_fieldAddr, vcallee_fieldAddr, bin2_tmp, vpick_bool, strip_pv, strip_ptr, strip_agg, strip_tup, optV_none, ev_tmp, ev_const, ofConst_bool, put_some, at_mk, fits_some, ↓look_cons, ↓vlook_t, ↓vlook_f, guard_none, guard_some, vgof_bool, ↓vrun_nil, ↓code_region, ↓code_seq, ↓code_ret, ↓onNormal_normal, ↓onNormal_ret, frz_pv, frzHeap_zero, res_one, vres_tmp, load_ptr, vld_one, blk_zero, blk_succ, box_eq, allOne_nil, allOne_cons, one_pv, faddr_ptr, vfap_some, bin_int, int_neq, enum_nil, enum_cons, evG_eq, ↓vrun_cons, ↓run1_some, ↓runG_true, ↓runG_false, ↓run2_none, ↓run3_some, ↓code_cond, ↓vtest_bool, ↓vbr_true, ↓vpost_ret, vfin_some, vfin2_some, at_hp, pickV_t, dcells, List.toList_toArray, List.getElem?_cons_zero, List.getElem?_cons_succ, List.length_cons, List.length_nil, List.cons_append, List.nil_append, Option.map_some, Option.bind_some, ↓reduceIte, reduceCtorEq, Nat.reduceAdd, Nat.reduceLT, Nat.reduceBEq, Int.reduceLT, Int.reduceAdd, Int.reduceBEq, Nat.zero_add, Nat.add_zero, and_self, Bool.not_true, Bool.and_self, b_beq_f, beq_self_eq_true, Try.vt3, Try.vfield29x0, dec_t, int_bne_t, Ret, DV.nums, Try.f13, Rm.d]
end Go.Proofs.Ytjjjlkjhojdnnaa

namespace Go.Proofs.Ytjjjlkjhojdnnaa
open Go.V Go
set_option maxRecDepth 100000
set_option linter.unusedSimpArgs false

theorem nodup_sub_len {α : Type} [BEq α] [LawfulBEq α] : ∀ (A B : List α), A.Nodup → (∀ a ∈ A, a ∈ B) → A.length ≤ B.length
  | [], _, _, _ => Nat.zero_le _
  | a :: r, B, hn, hs => by
    rw [List.nodup_cons] at hn
    have hm := hs a (by simp)
    have := nodup_sub_len r (B.erase a) hn.2 (fun b hb => by
      have hne : b ≠ a := fun e => hn.1 (e ▸ hb)
      exact (List.mem_erase_of_ne hne).2 (hs b (by simp [hb])))
    rw [List.length_erase_of_mem hm] at this
    have := List.length_pos_of_mem hm
    simp only [List.length_cons]; omega
theorem asc_nd (l : List Int) (h : l.Pairwise (· < ·)) : l.Nodup := h.imp fun {a b} h e => by omega

theorem lo_take (l : List Int) (a : Int) : ∀ x ∈ l.take (lo l fun x => decide (x < a)), x < a := fun x hx => by
  obtain ⟨j, hj, rfl⟩ := List.mem_take_iff_getElem.1 hx
  have := lo_before l (fun x => decide (x < a)) j (by omega) (by omega)
  simpa using this
theorem lo_drop (l : List Int) (h : l.Pairwise (· < ·)) (a : Int) : ∀ x ∈ l.drop (lo l fun x => decide (x < a)), a ≤ x := fun x hx => by
  obtain ⟨j, hj, rfl⟩ := List.mem_drop_iff_getElem.1 hx
  have h0 := lo_at l (fun x => decide (x < a)) (by omega)
  simp only [decide_eq_false_iff_not] at h0
  rcases Nat.eq_zero_or_pos j with rfl | hp
  · simp only [Nat.add_zero]; omega
  · have := List.pairwise_iff_getElem.mp h (lo l fun x => decide (x < a)) ((lo l fun x => decide (x < a)) + j) (by omega) (by omega) (by omega)
    omega
theorem mem_ins {α : Type} (l : List α) (i : Nat) (a x : α) : x ∈ l.take i ++ a :: l.drop i ↔ x = a ∨ x ∈ l := by
  conv => rhs; rw [← List.take_append_drop i l]
  simp only [List.mem_append, List.mem_cons]
  grind
theorem mem_insB (l : List Int) (a x : Int) : x ∈ insB l a ↔ x = a ∨ x ∈ l := mem_ins l _ a x
theorem insB_asc (l : List Int) (h : l.Pairwise (· < ·)) (a : Int) (hn : ¬ a ∈ l) : (insB l a).Pairwise (· < ·) := by
  have hd : ∀ y ∈ l.drop (lo l fun x => decide (x < a)), a < y := fun y hy => by
    have h1 := lo_drop l h a y hy
    have : y ≠ a := fun e => hn (e ▸ List.mem_of_mem_drop hy)
    omega
  rw [insB, List.pairwise_append]
  refine ⟨h.sublist (List.take_sublist _ _), List.pairwise_cons.2 ⟨hd, h.sublist (List.drop_sublist _ _)⟩, fun x hx y hy => ?_⟩
  have h1 := lo_take l a x hx
  rcases List.mem_cons.1 hy with rfl | hy
  · exact h1
  · have := hd y hy; omega

theorem pfound_at (l : List Pl) (n : Int) (h : pfound l n = true) : ∃ hi : plo l n < l.length, l[plo l n].pg = n := by
  unfold pfound at h
  cases hx : l[plo l n]? with
  | none => rw [hx] at h; simp at h
  | some p =>
    obtain ⟨hlt, he⟩ := List.getElem?_eq_some_iff.1 hx
    rw [hx] at h
    refine ⟨hlt, ?_⟩
    rw [he]
    simp at h; omega
theorem pfound_not (l : List Pl) (h : (l.map (·.pg)).Pairwise (· < ·)) (n : Int) (hf : ¬ pfound l n = true) : ∀ p ∈ l, p.pg ≠ n := by
  have := pfound_find l h n
  rw [if_neg hf, List.find?_eq_none] at this
  intro p hp e
  exact this p hp (by simp [e])
theorem plo_lo (l : List Pl) (n : Int) : plo l n = lo (l.map (·.pg)) fun x => decide (x < n) := by
  rw [plo, lo, lo, List.takeWhile_map, List.length_map]
  congr 2
  funext p
  simp only [Function.comp]
  exact decide_eq_decide.2 (by omega)
theorem setP_pgs (l : List Pl) (n f : Int) : (setP l n f).map (·.pg) = if pfound l n = true then l.map (·.pg) else insB (l.map (·.pg)) n := by
  rw [setP]
  split
  · rename_i hf
    obtain ⟨hi, he⟩ := pfound_at l n hf
    apply List.ext_getElem
    · simp
    · intro k h1 h2
      simp only [List.getElem_map, List.getElem_set]
      split
      · rename_i e; subst e; exact he.symm
      · rfl
  · rw [insB, ← plo_lo, List.map_append, List.map_cons, List.map_take, List.map_drop]
theorem mem_setP (l : List Pl) (h : (l.map (·.pg)).Pairwise (· < ·)) (n f : Int) (p : Pl) : p ∈ setP l n f ↔ p = ⟨n, f⟩ ∨ (p ∈ l ∧ p.pg ≠ n) := by
  rw [setP]
  split
  · rename_i hf
    obtain ⟨hi, he⟩ := pfound_at l n hf
    have hne : ∀ j, ∀ hj : j < l.length, j ≠ plo l n → l[j].pg ≠ n := fun j hj hjn => by
      have hp : ∀ a b, ∀ ha : a < l.length, ∀ hb : b < l.length, a < b → l[a].pg < l[b].pg := fun a b ha hb hab => by
        have := List.pairwise_iff_getElem.mp h a b (by rwa [List.length_map]) (by rwa [List.length_map]) hab
        rwa [List.getElem_map, List.getElem_map] at this
      rcases Nat.lt_or_gt_of_ne hjn with h1 | h1
      · have := hp j _ hj hi h1; omega
      · have := hp _ j hi hj h1; omega
    constructor
    · intro hm
      obtain ⟨j, hj, rfl⟩ := List.getElem_of_mem hm
      rw [List.length_set] at hj
      rw [List.getElem_set]
      split
      · exact .inl rfl
      · rename_i e; exact .inr ⟨List.getElem_mem hj, hne j hj (fun x => e x.symm)⟩
    · rintro (rfl | ⟨hm, hpn⟩)
      · exact List.mem_iff_getElem.2 ⟨plo l n, by rwa [List.length_set], by rw [List.getElem_set_self]⟩
      · obtain ⟨j, hj, rfl⟩ := List.getElem_of_mem hm
        have hjn : plo l n ≠ j := fun e => by subst e; exact hpn he
        exact List.mem_iff_getElem.2 ⟨j, by rwa [List.length_set], by rw [List.getElem_set_ne hjn]⟩
  · rename_i hf
    have hno := pfound_not l h n hf
    rw [mem_ins]
    constructor
    · rintro (e | hm)
      · exact .inl e
      · exact .inr ⟨hm, hno p hm⟩
    · rintro (e | ⟨hm, _⟩)
      · exact .inl e
      · exact .inr hm
theorem setP_len (l : List Pl) (n f : Int) : (setP l n f).length = if pfound l n = true then l.length else l.length + 1 := by
  rw [setP]
  have : plo l n ≤ l.length := lo_le _ _
  split
  · rw [List.length_set]
  · simp only [List.length_append, List.length_cons, List.length_take, List.length_drop]; omega
theorem places_bad (r : Rm) (h : r.Ok) (y : Int) (hy : y < r.pages) : y ∈ r.bad ↔ y ∈ r.places.map (·.pg) := by
  constructor
  · intro hb
    refine Classical.byContradiction fun hn => ?_
    have := nodup_sub_len (y :: r.places.map (·.pg)) (r.bad.filter fun x => decide (x < r.pages)) (List.nodup_cons.2 ⟨hn, asc_nd _ h.pasc⟩) fun a ha => by
      rw [List.mem_filter, decide_eq_true_eq]
      rcases List.mem_cons.1 ha with rfl | ha
      · exact ⟨hb, hy⟩
      · obtain ⟨p, hp, rfl⟩ := List.mem_map.1 ha
        have := h.prng p hp
        exact ⟨this.2.2.1, this.2.1⟩
    rw [h.own, List.length_cons, List.length_map] at this
    omega
  · intro hm
    obtain ⟨p, hp, rfl⟩ := List.mem_map.1 hm
    exact (h.prng p hp).2.2.1
theorem ad_inj (r : Rm) (h : r.Ok) (p q : Pl) (hp : p ∈ r.places) (hq : q ∈ r.places) (e : p.ad = q.ad) : p = q := by
  obtain ⟨i, hi, rfl⟩ := List.getElem_of_mem hp
  obtain ⟨j, hj, rfl⟩ := List.getElem_of_mem hq
  have := List.pairwise_iff_getElem.mp h.adnd
  simp only [List.length_map, List.getElem_map] at this
  rcases Nat.lt_trichotomy i j with h1 | rfl | h1
  · exact absurd e (this i j hi hj h1)
  · rfl
  · exact absurd e.symm (this j i hj hi h1)
theorem pg_inj (r : Rm) (h : r.Ok) (p q : Pl) (hp : p ∈ r.places) (hq : q ∈ r.places) (e : p.pg = q.pg) : p = q := by
  obtain ⟨i, hi, rfl⟩ := List.getElem_of_mem hp
  obtain ⟨j, hj, rfl⟩ := List.getElem_of_mem hq
  have := List.pairwise_iff_getElem.mp h.pasc
  simp only [List.length_map, List.getElem_map] at this
  rcases Nat.lt_trichotomy i j with h1 | rfl | h1
  · have := this i j hi hj h1; omega
  · rfl
  · have := this j i hj hi h1; omega
/-- Where pages lie: no two together, none at a bad place. -/
theorem where_ok (r : Rm) (h : r.Ok) (y : Int) (h0 : 0 ≤ y) (h1 : y < r.pages) : 0 ≤ r.whereS y ∧ r.whereS y < r.pages + r.spares ∧ ¬ r.whereS y ∈ r.bad ∧ r.ownerS (r.whereS y) = some y := by
  have hs := h.s1
  unfold Rm.whereS
  cases hf : r.places.find? fun p => p.pg == y with
  | none =>
    have hnb : ¬ y ∈ r.bad := fun hb => by
      obtain ⟨p, hp, e⟩ := List.mem_map.1 ((places_bad r h y h1).1 hb)
      rw [List.find?_eq_none] at hf
      exact hf p hp (by simp [e])
    refine ⟨h0, by show y < r.pages + r.spares; omega, hnb, ?_⟩
    show r.ownerS y = some y
    rw [Rm.ownerS, if_neg (fun e => e.elim (fun e => by omega) hnb), if_pos h1]
  | some p =>
    have hm := List.mem_of_find?_eq_some hf
    have he := List.find?_some hf
    have hr := h.prng p hm
    have hp1 := h.p1
    simp only [beq_iff_eq] at he
    refine ⟨by show 0 ≤ p.ad; omega, hr.2.2.2.2.1, hr.2.2.2.2.2, ?_⟩
    show r.ownerS p.ad = some y
    rw [Rm.ownerS, if_neg (fun e => e.elim (fun e => by omega) hr.2.2.2.2.2), if_neg (by omega)]
    cases hg : r.places.find? fun q => q.ad == p.ad with
    | none => rw [List.find?_eq_none] at hg; exact absurd (show (p.ad == p.ad) = true by simp) (hg p hm)
    | some q =>
      have hq := List.find?_some hg
      simp only [beq_iff_eq] at hq
      rw [ad_inj r h q p (List.mem_of_find?_eq_some hg) hm hq, Option.map_some, he]
theorem mem_freeS (r : Rm) (x : Int) (hx : x ∈ r.freeS) : r.pages ≤ x ∧ x < r.pages + r.spares ∧ ¬ x ∈ r.bad ∧ ¬ x ∈ r.places.map (·.ad) := by
  rw [Rm.freeS, Rm.freeN, List.mem_filter, List.mem_map] at hx
  obtain ⟨⟨k, hk, rfl⟩, h⟩ := hx
  rw [List.mem_range] at hk
  simp only [Bool.and_eq_true, Bool.not_eq_true', decide_eq_false_iff_not] at h
  exact ⟨by omega, by omega, h.2, h.1⟩
end Go.Proofs.Ytjjjlkjhojdnnaa

namespace Go.Proofs.Ytjjjlkjhojdnnaa
open Go.V Go
set_option maxRecDepth 100000
set_option linter.unusedSimpArgs false

theorem own_ins (l : List Int) (a k : Int) : ((insB l a).filter fun x => decide (x < k)).length = (l.filter fun x => decide (x < k)).length + if a < k then 1 else 0 := by
  have : (l.filter fun x => decide (x < k)).length = ((l.take (lo l fun x => decide (x < a)) ++ l.drop (lo l fun x => decide (x < a))).filter fun x => decide (x < k)).length := by rw [List.take_append_drop]
  rw [this, insB, List.filter_append, List.filter_append, List.length_append, List.length_append, List.filter_cons]
  by_cases h : a < k
  · simp only [h, decide_true, if_true, List.length_cons]; omega
  · simp only [h, decide_false, Bool.false_eq_true, if_false]; omega
theorem nodup_map {α : Type} (l : List α) (f : α → Int) (h : l.Nodup) (hi : ∀ p ∈ l, ∀ q ∈ l, f p = f q → p = q) : (l.map f).Nodup := by
  rw [List.Nodup, List.pairwise_map]
  exact h.imp_of_mem fun {a b} ha hb hne e => hne (hi a ha b hb e)
theorem nodup_of_map {α : Type} (l : List α) (f : α → Int) (h : (l.map f).Nodup) : l.Nodup := by
  rw [List.Nodup, List.pairwise_map] at h
  exact h.imp fun {a b} hne e => hne (by rw [e])
/-- One more bad place that nobody uses. -/
theorem ok_unused (r : Rm) (h : r.Ok) (a : Int) (h0 : 0 ≤ a) (h1 : a < r.pages + r.spares) (hb : ¬ a ∈ r.bad) (ho : r.ownerS a = none) : ({ r with bad := insB r.bad a } : Rm).Ok := by
  have hge : ¬ a < r.pages := fun hlt => by
    rw [Rm.ownerS, if_neg (fun e => e.elim (fun e => by omega) hb), if_pos hlt] at ho
    cases ho
  rw [Rm.ownerS, if_neg (fun e => e.elim (fun e => by omega) hb), if_neg hge] at ho
  have hno : ∀ p ∈ r.places, p.ad ≠ a := fun p hp e => by
    cases hf : r.places.find? fun p => p.ad == a with
    | none => rw [List.find?_eq_none] at hf; exact hf p hp (by simp [e])
    | some q => rw [hf] at ho; cases ho
  refine ⟨h.p1, h.p2, h.s1, h.s2, h.s3, insB_asc _ h.basc a hb, fun x hx => ?_, h.pasc, fun p hp => ?_, h.adnd, ?_⟩
  · rcases (mem_insB r.bad a x).1 hx with rfl | hx
    · exact ⟨h0, h1⟩
    · exact h.brng x hx
  · obtain ⟨a1, a2, a3, a4, a5, a6⟩ := h.prng p hp
    exact ⟨a1, a2, (mem_insB _ _ _).2 (.inr a3), a4, a5, fun e => ((mem_insB _ _ _).1 e).elim (hno p hp) a6⟩
  · have := own_ins r.bad a r.pages
    rw [if_neg hge] at this
    show ((insB r.bad a).filter fun x => decide (x < r.pages)).length = r.places.length
    rw [this, h.own]; rfl
/-- .. that a page used, which moves. -/
theorem ok_moved (r : Rm) (h : r.Ok) (a n f : Int) (h0 : 0 ≤ a) (h1 : a < r.pages + r.spares) (hb : ¬ a ∈ r.bad) (ho : r.ownerS a = some n) (hf : f ∈ r.freeS) : (⟨r.pages, r.spares, setP r.places n f, insB r.bad a⟩ : Rm).Ok := by
  obtain ⟨f1, f2, f3, f4⟩ := mem_freeS r f hf
  have hfa : ∀ p ∈ r.places, p.ad ≠ f := fun p hp e => f4 (List.mem_map.2 ⟨p, hp, e⟩)
  have hn := owner_rng r h a n ho
  rw [Rm.ownerS, if_neg (fun e => e.elim (fun e => by omega) hb)] at ho
  -- what is known of the page that moves
  have key : n ∈ insB r.bad a ∧ f ≠ a ∧ (∀ p ∈ r.places, p.pg ≠ n → p.ad ≠ a) ∧ (setP r.places n f).length = r.places.length + (if a < r.pages then 1 else 0) := by
    by_cases hlt : a < r.pages
    · rw [if_pos hlt] at ho
      cases ho
      have hnf : ¬ pfound r.places a = true := fun e => by
        obtain ⟨hi, he⟩ := pfound_at _ _ e
        exact hb ((places_bad r h a hlt).2 (List.mem_map.2 ⟨_, List.getElem_mem hi, he⟩))
      refine ⟨(mem_insB _ _ _).2 (.inl rfl), by omega, fun p hp _ => ?_, ?_⟩
      · have := h.prng p hp; omega
      · rw [setP_len, if_neg hnf, if_pos hlt]
    · rw [if_neg hlt] at ho
      cases hq : r.places.find? fun p => p.ad == a with
      | none => rw [hq] at ho; cases ho
      | some q =>
        have hqm := List.mem_of_find?_eq_some hq
        have hqa := List.find?_some hq
        simp only [beq_iff_eq] at hqa
        rw [hq] at ho
        cases ho
        have hfd : pfound r.places q.pg = true := Classical.byContradiction fun e => pfound_not r.places h.pasc q.pg e q hqm rfl
        refine ⟨(mem_insB _ _ _).2 (.inr (h.prng q hqm).2.2.1), fun e => hfa q hqm (by omega), fun p hp hne e => hne (by rw [ad_inj r h p q hp hqm (by omega)]), ?_⟩
        rw [setP_len, if_pos hfd, if_neg hlt]; rfl
  obtain ⟨k1, k2, k3, k4⟩ := key
  have hasc : ((setP r.places n f).map (·.pg)).Pairwise (· < ·) := by
    rw [setP_pgs]
    split
    · exact h.pasc
    · rename_i hnf
      exact insB_asc _ h.pasc n fun hm => by
        obtain ⟨p, hp, e⟩ := List.mem_map.1 hm
        exact pfound_not r.places h.pasc n hnf p hp e
  have hmem := mem_setP r.places h.pasc n f
  refine ⟨h.p1, h.p2, h.s1, h.s2, h.s3, insB_asc _ h.basc a hb, fun x hx => ?_, hasc, fun p hp => ?_, ?_, ?_⟩
  · rcases (mem_insB r.bad a x).1 hx with rfl | hx
    · exact ⟨h0, h1⟩
    · exact h.brng x hx
  · rcases (hmem p).1 hp with rfl | ⟨hp, hne⟩
    · exact ⟨hn.1, hn.2, k1, f1, f2, fun e => ((mem_insB _ _ _).1 e).elim k2 f3⟩
    · obtain ⟨a1, a2, a3, a4, a5, a6⟩ := h.prng p hp
      exact ⟨a1, a2, (mem_insB _ _ _).2 (.inr a3), a4, a5, fun e => ((mem_insB _ _ _).1 e).elim (k3 p hp hne) a6⟩
  · refine nodup_map _ _ (nodup_of_map _ _ (asc_nd _ hasc)) fun p hp q hq e => ?_
    rcases (hmem p).1 hp with rfl | ⟨hp, hne⟩ <;> rcases (hmem q).1 hq with rfl | ⟨hq, hnq⟩
    · rfl
    · exact absurd e.symm (hfa q hq)
    · exact absurd e (hfa p hp)
    · exact ad_inj r h p q hp hq e
  · have := own_ins r.bad a r.pages
    show ((insB r.bad a).filter fun x => decide (x < r.pages)).length = (setP r.places n f).length
    rw [this, h.own, k4]
/-- What Mark does to a right map. -/
theorem mark_law (r : Rm) (h : r.Ok) (a : Int) (h0 : 0 ≤ a) (h1 : a < r.pages + r.spares) :
    (r.markS a = (Rm0, 0, 47) ∧ (∃ n, r.ownerS a = some n) ∧ r.freeS = []) ∨
    (∃ r', r.markS a = (r', (r.ownerS a).getD (-1), 0) ∧ r'.Ok ∧ a ∈ r'.bad ∧ r'.pages = r.pages ∧ r'.spares = r.spares ∧ r'.places.length ≤ r.places.length + 1 ∧ r'.bad.length ≤ r.bad.length + 1) := by
  rw [Rm.markS, if_pos ((ok_iff r).2 h), if_neg (by omega)]
  by_cases hb : a ∈ r.bad
  · rw [if_pos hb]
    refine .inr ⟨r, ?_, h, hb, rfl, rfl, by omega, by omega⟩
    rw [Rm.ownerS, if_pos (.inr hb)]; rfl
  · rw [if_neg hb]
    cases ho : r.ownerS a with
    | none => exact .inr ⟨_, rfl, ok_unused r h a h0 h1 hb ho, (mem_insB _ _ _).2 (.inl rfl), rfl, rfl, Nat.le_succ _, by simp only [insB_len]; omega⟩
    | some n =>
      cases hf : r.freeS with
      | nil => exact .inl ⟨rfl, ⟨n, rfl⟩, rfl⟩
      | cons f fs =>
        refine .inr ⟨_, rfl, ok_moved r h a n f h0 h1 hb ho (by rw [hf]; simp), (mem_insB _ _ _).2 (.inl rfl), rfl, rfl, ?_, by simp only [insB_len]; omega⟩
        simp only [setP_len]
        split <;> omega
theorem ok_sm (r : Rm) (h : r.Ok) : r.sm := by
  have hl : r.bad.length ≤ ((List.range 64).map fun i : Nat => (i : Int)).length := nodup_sub_len _ _ (asc_nd _ h.basc) fun x hx => by
    have := h.brng x hx
    have := h.s3
    exact List.mem_map.2 ⟨x.toNat, by rw [List.mem_range]; omega, by omega⟩
  have hp : (r.places.map (·.pg)).length ≤ ((List.range 64).map fun i : Nat => (i : Int)).length := nodup_sub_len _ _ (asc_nd _ h.pasc) fun x hx => by
    obtain ⟨p, hp, rfl⟩ := List.mem_map.1 hx
    have := h.prng p hp
    have := h.p2
    exact List.mem_map.2 ⟨p.pg.toNat, by rw [List.mem_range]; omega, by omega⟩
  simp only [List.length_map, List.length_range] at hl hp
  exact ⟨by omega, by omega⟩
end Go.Proofs.Ytjjjlkjhojdnnaa

namespace Go.Proofs.Ytjjjlkjhojdnnaa
open Go.V Go
set_option maxRecDepth 100000
set_option linter.unusedSimpArgs false

/-! Plain: spare addresses that are not used, marked in any order. -/
structure AgB (i : Nat) (B : List Int) : Prop where
  asc : B.Pairwise (· < ·)
  rng : ∀ x ∈ B, 4 ≤ x ∧ x < 4 + i
end Go.Proofs.Ytjjjlkjhojdnnaa

namespace Go.Proofs.Ytjjjlkjhojdnnaa
open Go.V Go
set_option maxRecDepth 100000
set_option pp.deepTerms true
set_option pp.deepTerms.threshold 100000
set_option pp.maxSteps 1000000
set_option pp.proofs false
set_option linter.unusedSimpArgs false

theorem lenP (l : List Pl) : (cells encP l).length = l.length * 2 := cells_len encP l
theorem allP (l : List Pl) (n : Nat) (h : l.length * 2 ≤ n) : (cells encP l).take n = cells encP l := by rw [List.take_of_length_le]; rw [lenP]; exact h
theorem srcP (l : List Pl) : (fz encP l = [] ∨ (fz encP l)[0]?.map List.length = some 2) = True := fz_src encP l
theorem frzP {n : Nat} {hp : Heap} {len : Nat} {l : List Pl} (h : l.length = len) : frzC n hp 0 2 len (some (cells encP l)) = some (.sl (fz encP l)) := frzC_cells encP h

theorem lenN (l : List Int) : (cells encI l).length = l.length * 1 := cells_len encI l
theorem allN (l : List Int) (n : Nat) (h : l.length * 1 ≤ n) : (cells encI l).take n = cells encI l := by rw [List.take_of_length_le]; rw [lenN]; exact h
theorem appN (l m : List Int) : cells encI l ++ cells encI m = cells encI (l ++ m) := (cells_app encI l m).symm
theorem slkN (l : List Int) (T : TypeId) (a b : Nat) (h : a ≤ b ∧ b ≤ l.length) : vslk (some (none, T, 1)) (fz encI l) a b = some (.pv (.sl (fz encI ((l.take b).drop a)))) := vslk_fz encI l T a b h
theorem srcN (l : List Int) : (fz encI l = [] ∨ (fz encI l)[0]?.map List.length = some 1) = True := fz_src encI l
theorem app1P (l : List Pl) (x : Pl) : cells encP l ++ [.pv (.lit (.int .i64 x.pg)), .pv (.lit (.int .i64 x.ad))] = cells encP (l ++ [x]) := by rw [cells_app]; rfl
theorem app1N (l : List Int) (x : Int) : cells encI l ++ [.pv (.lit (.int .i64 x))] = cells encI (l ++ [x]) := by rw [cells_app]; rfl
theorem rhas_v (l : List Int) (hl : l.length ≤ 1000) (y : Int) : VCalls Try.prog 39 [.pv (.sl (fz encI l)), .int .i64 y] [] (Ret (.bool (decide (y ∈ l)))) := by
  refine vcalls_drop (fn := Try.f39) Try.func39 rfl (by kernel_rfl) (by simp [Try.f39]) ?_
  simp (config := { maxSteps := 2000000 }) (implicitDefEqProofs := false) (disch := first | omega | assumption | (simp only []; done) | fail) only [vop_assign, vcallee_assign, strip_pv, optV_none, ev_const, ofConst_int, ofConst_bool, put_some, at_mk, fits_some, guard_none, ↓vrun_nil, ↓code_region, ↓code_seq, ↓code_block, ↓code_loop, ↓onNormal_normal, enum_nil, enum_cons, evG_eq, ↓vrun_cons, ↓run1_some, ↓runG_true, ↓run2_none, ↓run3_some, List.toList_toArray, List.length_nil, Nat.reduceAdd, Nat.reduceLT, Int.reduceLT, Int.reduceAdd, Nat.zero_add, true_and, Bool.true_and, dec_t, Try.f39]
  refine vloopW (fun s : {i : Nat // i ≤ l.length ∧ ¬ y ∈ l.take i} => ⟨18, 0, [(5, .int .i64 s.1), (1, .int .i64 y), (0, .pv (.sl (fz encI l)))], []⟩) (fun s => l.length - s.1) ⟨0, Nat.zero_le _, by simp⟩ (.inl (by refine ⟨rfl, rfl, by simp, ?_, ?_, .inr ⟨?_, ?_⟩⟩ <;> (repeat' apply And.intro) <;> first | rfl | trivial | (intro _; first | rfl | apply cells_refs))) ?_
  rintro ⟨i, hi, hn⟩
  dsimp only
  have hg := fun h : i < l.length => fzI_get l i h
  have hd := fun h : i < l.length => getD_eq l i h 0
  (try simp (config := { maxSteps := 2000000 }) (implicitDefEqProofs := false) (disch := first | omega | assumption | (simp only []; done) | fail) only [vop_move, vcallee_move, vop_binOp, vcallee_binOp, vop_builtin, vcallee_builtin, bin2_tmp, strip_pv, optV_none, ev_tmp, put_some, at_mk, fits_some, ↓look_cons, ↓vlook_t, ↓vlook_f, guard_none, ↓vrun_nil, ↓code_region, ↓code_seq, ↓onNormal_normal, bin_int, int_lss, len_sl, vlk_sl, bi_len, evG_eq, ↓vrun_cons, ↓run1_some, ↓runG_true, ↓run2_none, ↓run3_some, ↓code_cond, ↓vtest_bool, at_hp, List.map_nil, List.map_cons, List.map_nil, Option.map_some, Nat.reduceLT, Nat.reduceBEq, Int.reduceLT, Int.reduceBEq, true_and, Bool.true_and, beq_self_eq_true, fz_len, Try.vkind27, dec_t])
  repeat' (first
    | (refine vrunG_split (fun hZ => ?_) (fun hZ => ?_) <;> (try rw [hZ]) <;> (try simp only [decide_eq_true_eq, decide_eq_false_iff_not, Bool.or_eq_true, Bool.and_eq_true, Bool.or_eq_false_iff, Bool.and_eq_false_imp, Bool.not_eq_true', Bool.not_eq_false', beq_iff_eq, beq_eq_false_iff_ne, bne_iff_ne, bne_eq_false_iff_eq, ne_eq, Bool.not_eq_eq_eq_not, Bool.not_true, Bool.not_false] at hZ) <;> (try (first | rw [(hZ : _ = false)] | rw [(hZ : _ = true)])) <;> skip)
    | (refine vbr_split (fun hZ => ?_) (fun hZ => ?_) <;> (try rw [hZ]) <;> (try simp only [decide_eq_true_eq, decide_eq_false_iff_not, Bool.or_eq_true, Bool.and_eq_true, Bool.or_eq_false_iff, Bool.and_eq_false_imp, Bool.not_eq_true', Bool.not_eq_false', beq_iff_eq, beq_eq_false_iff_ne, bne_iff_ne, bne_eq_false_iff_eq, ne_eq, Bool.not_eq_eq_eq_not, Bool.not_true, Bool.not_false] at hZ) <;> (try (first | rw [(hZ : _ = false)] | rw [(hZ : _ = true)])) <;> (try simp (config := { maxSteps := 2000000 }) (implicitDefEqProofs := false) (disch := first | omega | assumption | (simp only [List.length_cons, List.length_nil, Nat.zero_add]; done) | fail) only [vop_move, vcallee_move, vop_assign, vcallee_assign, vop_load, vcallee_load, vop_binOp, vcallee_binOp, vop_indexAddr, vcallee_indexAddr, bin2_tmp, bin2_int, strip_pv, strip_ip, optV_none, ev_tmp, ev_const, ofConst_int, ofConst_bool, put_some, at_mk, fits_some, ↓look_cons, ↓vlook_t, ↓vlook_f, guard_none, ↓vrun_nil, ↓code_skip, ↓code_region, ↓code_seq, ↓code_block, ↓code_exit, ↓code_ret, ↓onNormal_normal, ↓onNormal_ret, ↓onNormal_exit, ↓onBlock_normal, ↓onBlock_ret, ↓onBlock_exit, frz_pv, frzHeap_zero, res_one, vres_tmp, load_ip, vldp_one, iaddr_sl, vias_some, bin_int, int_add, int_eql, evG_eq, ↓vrun_cons, ↓run1_some, ↓runG_true, ↓run2_none, ↓run3_some, ↓code_cond, ↓vtest_bool, ↓vpost_ret, vfin_some, vfin2_some, at_hp, List.getElem?_cons_zero, Option.map_some, ↓reduceIte, Nat.reduceLT, Nat.reduceBEq, Int.reduceLT, Int.reduceBEq, Int.toNat_natCast, true_and, Bool.true_and, beq_self_eq_true, Try.vt3, Try.velem27, wrap_i64_in, dec_t, Ret, DV.nums, hg]))
    | (refine vdrG_split (fun hZ => ?_) (fun hZ => ?_) <;> (try rw [hZ]) <;> (try simp only [decide_eq_true_eq, decide_eq_false_iff_not, Bool.or_eq_true, Bool.and_eq_true, Bool.or_eq_false_iff, Bool.and_eq_false_imp, Bool.not_eq_true', Bool.not_eq_false', beq_iff_eq, beq_eq_false_iff_ne, bne_iff_ne, bne_eq_false_iff_eq, ne_eq, Bool.not_eq_eq_eq_not, Bool.not_true, Bool.not_false] at hZ) <;> (try (first | rw [(hZ : _ = false)] | rw [(hZ : _ = true)])) <;> skip)
    )
  · rw [hd (by omega)] at hZ
    rw [decide_eq_true (show y ∈ l from hZ ▸ List.getElem_mem _)]
  · refine ⟨⟨i + 1, by omega, fun hm => ?_⟩, by show l.length - (i + 1) < l.length - i; omega, (by refine gc_of (keep := []) rfl rfl rfl (by decide) ?_ ?_ <;> (repeat' apply And.intro) <;> first | trivial | rfl | exact ⟨_, rfl, rfl, rfl, .inl ⟨rfl, rfl⟩⟩ | exact ⟨_, rfl, rfl, rfl, .inl ⟨cells_nums _ _ _, rfl⟩⟩ | exact ⟨_, rfl, rfl, rfl, .inl ⟨pvs_nums _ _, rfl⟩⟩ | exact ⟨_, rfl, rfl, rfl, .inr ⟨rfl, rfl⟩⟩)⟩
    rw [List.take_succ_eq_append_getElem (by omega), List.mem_append, List.mem_singleton] at hm
    rw [hd (by omega)] at hZ
    rcases hm with hm | hm
    · exact hn hm
    · exact hZ hm.symm
  · rw [List.take_of_length_le (by omega)] at hn
    rw [decide_eq_false hn]
set_option maxHeartbeats 4000000 in
theorem rvalid_v (r : Rm) (hs : r.sm) : VCalls Try.prog 16 [.agg r.d] [] (Ret (.bool r.okB)) := by
  refine vcalls_drop (fn := Try.f16) Try.func16 rfl (by kernel_rfl) (by simp [Try.f16]) ?_
  obtain ⟨pages, spares, places, bad⟩ := r
  obtain ⟨hs1, hs2⟩ := hs
  dsimp only at hs1 hs2
  obtain ⟨R, hR⟩ : ∃ R : Rm, R = ⟨pages, spares, places, bad⟩ := ⟨_, rfl⟩
  have okE : R.okB = (R.headB && (List.range bad.length).all R.chkB && (List.range places.length).all R.chkP && (R.own bad.length == places.length)) := by subst hR; rfl
  have hdE : R.headB = (decide (1 ≤ pages) && decide (pages ≤ 64) && decide (0 ≤ spares) && decide (spares ≤ 16) && decide (pages + spares ≤ 64)) := by subst hR; rfl
  have cbE : ∀ i, R.chkB i = (decide (0 ≤ bad.getD i 0) && decide (bad.getD i 0 < pages + spares) && (decide (i = 0) || decide (bad.getD (i - 1) 0 < bad.getD i 0))) := fun i => by subst hR; rfl
  have cpE : ∀ i, R.chkP i = (decide (0 ≤ (places.getD i P0).pg) && decide ((places.getD i P0).pg < pages) && (decide (i = 0) || decide ((places.getD (i - 1) P0).pg < (places.getD i P0).pg)) &&
      decide ((places.getD i P0).pg ∈ bad) && decide (pages ≤ (places.getD i P0).ad) && decide ((places.getD i P0).ad < pages + spares) && !decide ((places.getD i P0).ad ∈ bad) &&
      !decide ((places.getD i P0).ad ∈ (places.take i).map (·.ad))) := fun i => by subst hR; rfl
  have hos : ∀ i, i < bad.length → R.own (i + 1) = R.own i + (if bad.getD i 0 < pages then 1 else 0) := fun i h => by subst hR; exact own_succ ⟨pages, spares, places, bad⟩ i h
  have ho0 : R.own 0 = 0 := by subst hR; rfl
  have hol : ∀ i, R.own i ≤ i := fun i => own_le R i
  rw [← hR]
  have no1 : ¬ R.headB = true → DV.bool false = DV.bool R.okB := fun h => by rw [okE, Bool.eq_false_iff.2 h]; rfl
  have no2 : ∀ i, i < bad.length → ¬ R.chkB i = true → DV.bool false = DV.bool R.okB := fun i hi h => by rw [okE, all_not hi (Bool.eq_false_iff.2 h)]; simp
  have no3 : ∀ i, i < places.length → ¬ R.chkP i = true → DV.bool false = DV.bool R.okB := fun i hi h => by rw [okE, all_not hi (Bool.eq_false_iff.2 h)]; simp
  have hcell : (Rm.d R) = [.int .i64 pages, .int .i64 spares, .pv (.sl (fz encP places)), .pv (.sl (fz encI bad))] := by subst hR; rfl
  rw [hcell]
  clear hR hcell
  simp (config := { maxSteps := 2000000 }) (implicitDefEqProofs := false) (disch := first | omega | assumption | (simp only []; done) | fail) only [vop_move, vcallee_move, vop_assign, vcallee_assign, vop_box, vcallee_box, vop_load, vcallee_load, vop_binOp, vcallee_binOp, vop_fieldAddr, vcallee_fieldAddr, bin2_int, strip_pv, strip_ptr, strip_agg, optV_none, ev_tmp, ev_const, ofConst_int, ofConst_bool, put_some, at_mk, fits_some, ↓look_cons, ↓vlook_t, ↓vlook_f, guard_none, guard_some, vgof_bool, ↓vrun_nil, ↓code_region, ↓code_seq, ↓onNormal_normal, load_ptr, vld_one, blk_zero, box_eq, allOne_nil, allOne_cons, one_pv, faddr_ptr, vfap_some, bin_int, int_lss, enum_nil, enum_cons, evG_eq, ↓vrun_cons, ↓run1_some, ↓runG_true, ↓run2_none, ↓run3_some, at_hp, dcells, List.toList_toArray, List.getElem?_cons_zero, List.getElem?_cons_succ, List.length_nil, List.nil_append, Option.map_some, Option.bind_some, ↓reduceIte, reduceCtorEq, Nat.reduceLT, Nat.reduceBEq, Int.reduceLT, Int.reduceBEq, Nat.zero_add, Nat.add_zero, true_and, and_self, Bool.true_and, Bool.and_self, b_beq_f, beq_self_eq_true, Try.vt3, Try.vfield29x0, dec_t, Try.f16]
  skip
  repeat' (first
    | (refine vrunG_split (fun hZ => ?_) (fun hZ => ?_) <;> (try rw [hZ]) <;> (try simp only [decide_eq_true_eq, decide_eq_false_iff_not, Bool.or_eq_true, Bool.and_eq_true, Bool.or_eq_false_iff, Bool.and_eq_false_imp, Bool.not_eq_true', Bool.not_eq_false', beq_iff_eq, beq_eq_false_iff_ne, bne_iff_ne, bne_eq_false_iff_eq, ne_eq, Bool.not_eq_eq_eq_not, Bool.not_true, Bool.not_false] at hZ) <;> (try (first | rw [(hZ : _ = false)] | rw [(hZ : _ = true)])) <;> (try simp (config := { maxSteps := 2000000 }) (implicitDefEqProofs := false) (disch := first | omega | assumption | (simp only []; done) | fail) only [vop_move, vcallee_move, vop_assign, vcallee_assign, vop_pick, vcallee_pick, vop_load, vcallee_load, vop_binOp, vcallee_binOp, vop_fieldAddr, vcallee_fieldAddr, bin2_tmp, bin2_int, vpick_bool, strip_pv, strip_ptr, strip_tup, strip_opt, vstr_true, optV_none, optV_some, pickV_bool, ev_tmp, ev_const, ofConst_int, ofConst_bool, put_some, at_mk, fits_some, ↓look_cons, ↓vlook_t, ↓vlook_f, guard_none, guard_some, vgof_bool, ↓vrun_nil, ↓code_region, ↓code_seq, ↓code_ret, ↓onNormal_normal, ↓onNormal_ret, frz_pv, frzHeap_zero, res_one, vres_tmp, load_ptr, vld_one, blk_zero, faddr_ptr, vfap_some, bin_int, int_add, int_lss, int_gtr, evG_eq, ↓vrun_cons, ↓run1_some, ↓runG_true, ↓runG_false, ↓run2_none, ↓run3_some, ↓code_cond, ↓vtest_bool, ↓vbr_true, ↓vpost_ret, vfin_some, vfin2_some, at_hp, pickV_t, List.getElem?_cons_zero, List.getElem?_cons_succ, Option.map_some, Option.bind_some, ↓reduceIte, reduceCtorEq, Nat.reduceLT, Nat.reduceBEq, Int.reduceLT, Int.reduceBEq, Nat.zero_add, Nat.add_zero, true_and, or_true, Bool.not_true, Bool.not_false, Bool.or_true, Bool.true_and, b_beq_f, cond_false, beq_self_eq_true, Try.vt3, Try.vfield29x0, Try.vfield29x1, wrap_i64_in, dec_t, dec_f, Ret, DV.nums]))
    | (refine vbr_split (fun hZ => ?_) (fun hZ => ?_) <;> (try rw [hZ]) <;> (try simp only [decide_eq_true_eq, decide_eq_false_iff_not, Bool.or_eq_true, Bool.and_eq_true, Bool.or_eq_false_iff, Bool.and_eq_false_imp, Bool.not_eq_true', Bool.not_eq_false', beq_iff_eq, beq_eq_false_iff_ne, bne_iff_ne, bne_eq_false_iff_eq, ne_eq, Bool.not_eq_eq_eq_not, Bool.not_true, Bool.not_false] at hZ) <;> (try (first | rw [(hZ : _ = false)] | rw [(hZ : _ = true)])) <;> (try simp (config := { maxSteps := 2000000 }) (implicitDefEqProofs := false) (disch := first | omega | assumption | (simp only []; done) | fail) only [vop_assign, vcallee_assign, strip_pv, optV_none, ev_const, ofConst_int, ofConst_bool, put_some, at_mk, fits_some, ↓look_cons, ↓vlook_t, guard_none, ↓vrun_nil, ↓code_skip, ↓code_region, ↓code_seq, ↓code_block, ↓code_loop, ↓code_ret, ↓onNormal_normal, ↓onNormal_ret, frz_pv, frzHeap_zero, res_one, vres_tmp, evG_eq, ↓vrun_cons, ↓run1_some, ↓runG_true, ↓run2_none, ↓run3_some, ↓vpost_ret, vfin_some, vfin2_some, at_hp, Nat.reduceLT, Int.reduceLT, true_and, Bool.true_and, beq_self_eq_true, dec_t, Ret, DV.nums]))
    | (refine vdrG_split (fun hZ => ?_) (fun hZ => ?_) <;> (try rw [hZ]) <;> (try simp only [decide_eq_true_eq, decide_eq_false_iff_not, Bool.or_eq_true, Bool.and_eq_true, Bool.or_eq_false_iff, Bool.and_eq_false_imp, Bool.not_eq_true', Bool.not_eq_false', beq_iff_eq, beq_eq_false_iff_ne, bne_iff_ne, bne_eq_false_iff_eq, ne_eq, Bool.not_eq_eq_eq_not, Bool.not_true, Bool.not_false] at hZ) <;> (try (first | rw [(hZ : _ = false)] | rw [(hZ : _ = true)])) <;> skip)
    )
  all_goals first
    | (exact no1 (by rw [hdE]; simp only [Bool.and_eq_true, decide_eq_true_eq]; omega))
    | skip
  have hhd : R.headB = true := by rw [hdE]; simp only [Bool.and_eq_true, decide_eq_true_eq]; omega
  have hpg : 1 ≤ pages ∧ pages ≤ 64 ∧ 0 ≤ spares ∧ spares ≤ 16 ∧ pages + spares ≤ 64 := ⟨by omega, by omega, by omega, by omega, by omega⟩
  refine vloopW (fun s : Okay bad.length R.chkB => ⟨177, 0, [(4, .int .i64 s.i), (3, .int .i64 (R.own s.i)), (1, .ptr 0 0)], [⟨29, true, [.int .i64 pages, .int .i64 spares, .pv (.sl (fz encP places)), .pv (.sl (fz encI bad))]⟩]⟩) (fun s => bad.length - s.i) (Okay.start _ _) (.inl ?_) ?_
  · rw [show (Okay.start bad.length R.chkB).i = 0 from rfl, ho0]
    exact (by refine ⟨rfl, rfl, by simp, ?_, ?_, .inr ⟨?_, ?_⟩⟩ <;> (repeat' apply And.intro) <;> first | rfl | trivial | (intro _; first | rfl | apply cells_refs))
  intro s
  have hi := s.hi
  have hg := fun h : s.i < bad.length => fzI_get bad s.i h
  have hgp : 0 < (s.i : Int) → (s.i : Int) < bad.length → (fz encI bad)[((s.i : Int) - 1).toNat]? = some [.lit (.int .i64 (bad.getD (s.i - 1) 0))] := fun h h2 => by
    rw [show ((s.i : Int) - 1).toNat = s.i - 1 by omega]; exact fzI_get bad (s.i - 1) (by omega)
  have hos' := hos s.i
  have hol' := hol s.i
  (try simp (config := { maxSteps := 2000000 }) (implicitDefEqProofs := false) (disch := first | omega | assumption | (simp only []; done) | fail) only [vop_move, vcallee_move, vop_load, vcallee_load, vop_binOp, vcallee_binOp, vop_fieldAddr, vcallee_fieldAddr, vop_builtin, vcallee_builtin, bin2_tmp, strip_pv, strip_ptr, optV_none, ev_tmp, put_some, at_mk, fits_some, ↓look_cons, ↓vlook_t, ↓vlook_f, guard_none, ↓vrun_nil, ↓code_region, ↓code_seq, ↓onNormal_normal, load_ptr, vld_one, blk_zero, faddr_ptr, vfap_some, bin_int, int_lss, len_sl, vlk_sl, bi_len, evG_eq, ↓vrun_cons, ↓run1_some, ↓runG_true, ↓run2_none, ↓run3_some, ↓code_cond, ↓vtest_bool, at_hp, List.map_nil, List.getElem?_cons_zero, List.getElem?_cons_succ, List.map_cons, List.map_nil, Option.map_some, ↓reduceIte, reduceCtorEq, Nat.reduceLT, Nat.reduceBEq, Int.reduceLT, Int.reduceBEq, Nat.zero_add, true_and, Bool.true_and, beq_self_eq_true, fz_len, Try.vt27, Try.vkind27, Try.vfield29x3, dec_t])
  repeat' (first
    | (refine vrunG_split (fun hZ => ?_) (fun hZ => ?_) <;> (try rw [hZ]) <;> (try simp only [decide_eq_true_eq, decide_eq_false_iff_not, Bool.or_eq_true, Bool.and_eq_true, Bool.or_eq_false_iff, Bool.and_eq_false_imp, Bool.not_eq_true', Bool.not_eq_false', beq_iff_eq, beq_eq_false_iff_ne, bne_iff_ne, bne_eq_false_iff_eq, ne_eq, Bool.not_eq_eq_eq_not, Bool.not_true, Bool.not_false] at hZ) <;> (try (first | rw [(hZ : _ = false)] | rw [(hZ : _ = true)])) <;> (try simp (config := { maxSteps := 2000000 }) (implicitDefEqProofs := false) (disch := first | omega | assumption | (simp only [List.length_cons, List.length_nil, Nat.zero_add]; done) | fail) only [vop_move, vcallee_move, vop_assign, vcallee_assign, vop_pick, vcallee_pick, vop_load, vcallee_load, vop_binOp, vcallee_binOp, vop_fieldAddr, vcallee_fieldAddr, vop_indexAddr, vcallee_indexAddr, bin2_tmp, bin2_int, vpick_bool, strip_pv, strip_ptr, strip_tup, strip_opt, vstr_true, optV_none, optV_some, pickV_bool, ev_tmp, ev_const, ofConst_int, ofConst_bool, put_some, at_mk, fits_some, ↓look_cons, ↓vlook_t, ↓vlook_f, guard_none, guard_some, vgof_bool, vgof_opt, vgof_skip, ↓vrun_nil, ↓code_skip, ↓code_region, ↓code_draw, ↓code_seq, ↓code_ret, ↓onNormal_normal, ↓onNormal_ret, ↓onBlock_ret, frz_pv, frzHeap_zero, res_one, vres_tmp, load_ptr, load_ip, vld_one, vldp_one, blk_zero, faddr_ptr, vfap_some, iaddr_sl, vias_some, bin_int, int_add, int_sub, int_gtr, int_geq, evG_eq, ↓vrun_cons, ↓run1_some, ↓runG_true, ↓runG_false, ↓run2_none, ↓run3_some, ↓code_cond, ↓vtest_bool, ↓vbr_true, ↓vbr_false, ↓vpost_ret, vfin_some, vfin2_some, at_hp, pickV_f, pickV_t, List.getElem?_cons_zero, List.getElem?_cons_succ, Option.map_some, Option.bind_some, ↓reduceIte, reduceCtorEq, Nat.reduceLT, Nat.reduceBEq, Int.reduceLT, Int.reduceBEq, Int.toNat_natCast, Nat.zero_add, Nat.add_zero, true_and, and_self, and_false, or_true, Bool.not_true, Bool.not_false, Bool.or_true, Bool.true_and, Bool.and_false, Bool.and_self, b_beq_t, b_beq_f, cond_true, cond_false, beq_self_eq_true, ↓vsp_nil, Try.vt3, Try.vt27, Try.velem27, Try.vfield29x0, Try.vfield29x1, Try.vfield29x3, wrap_i64_in, dec_t, dec_f, Ret, DV.nums, hg, hgp]))
    | (refine vbr_split (fun hZ => ?_) (fun hZ => ?_) <;> (try rw [hZ]) <;> (try simp only [decide_eq_true_eq, decide_eq_false_iff_not, Bool.or_eq_true, Bool.and_eq_true, Bool.or_eq_false_iff, Bool.and_eq_false_imp, Bool.not_eq_true', Bool.not_eq_false', beq_iff_eq, beq_eq_false_iff_ne, bne_iff_ne, bne_eq_false_iff_eq, ne_eq, Bool.not_eq_eq_eq_not, Bool.not_true, Bool.not_false] at hZ) <;> (try (first | rw [(hZ : _ = false)] | rw [(hZ : _ = true)])) <;> (try simp (config := { maxSteps := 2000000 }) (implicitDefEqProofs := false) (disch := first | omega | assumption | (simp only []; done) | fail) only [vop_move, vcallee_move, vop_assign, vcallee_assign, vop_binOp, vcallee_binOp, bin2_int, strip_pv, optV_none, ev_tmp, ev_const, ofConst_int, ofConst_bool, put_some, at_mk, fits_some, ↓look_cons, ↓vlook_t, ↓vlook_f, guard_none, ↓vrun_nil, ↓code_skip, ↓code_region, ↓code_draw, ↓code_seq, ↓code_block, ↓code_loop, ↓code_exit, ↓code_ret, ↓onNormal_normal, ↓onNormal_ret, ↓onNormal_exit, ↓onBlock_normal, ↓onBlock_ret, ↓onBlock_exit, frz_pv, frzHeap_zero, res_one, vres_tmp, bin_int, int_add, evG_eq, ↓vrun_cons, ↓run1_some, ↓runG_true, ↓run2_none, ↓run3_some, ↓vpost_ret, vfin_some, vfin2_some, at_hp, Option.map_some, ↓reduceIte, Nat.reduceLT, Nat.reduceBEq, Int.reduceLT, Int.reduceBEq, true_and, Bool.true_and, beq_self_eq_true, wrap_i64_in, dec_t, Ret, DV.nums]))
    | (refine vdrG_split (fun hZ => ?_) (fun hZ => ?_) <;> (try rw [hZ]) <;> (try simp only [decide_eq_true_eq, decide_eq_false_iff_not, Bool.or_eq_true, Bool.and_eq_true, Bool.or_eq_false_iff, Bool.and_eq_false_imp, Bool.not_eq_true', Bool.not_eq_false', beq_iff_eq, beq_eq_false_iff_ne, bne_iff_ne, bne_eq_false_iff_eq, ne_eq, Bool.not_eq_eq_eq_not, Bool.not_true, Bool.not_false] at hZ) <;> (try (first | rw [(hZ : _ = false)] | rw [(hZ : _ = true)])) <;> skip)
    | (refine vspine (id := 7) [0, 1, 2, 3, 4, 5, 6, 7, 8, 9, 10, 11, 12, 13, 14, 15, 16, 17, 18, 19, 20, 21, 22, 23, 24, 25, 26, 27, 28, 29, 30, 31, 32, 33, 34, 35, 36] [] (by kernel_rfl) (by kernel_rfl) ?_; (try simp (config := { maxSteps := 2000000 }) (implicitDefEqProofs := false) (disch := first | omega | assumption | (simp only [List.length_cons, List.length_nil, Nat.zero_add]; done) | fail) only [vop_move, vcallee_move, vop_load, vcallee_load, vop_binOp, vcallee_binOp, vop_fieldAddr, vcallee_fieldAddr, vop_indexAddr, vcallee_indexAddr, bin2_int, strip_pv, strip_ptr, strip_ip, optV_none, ev_tmp, ev_const, ofConst_int, put_some, at_mk, fits_some, ↓look_cons, ↓vlook_t, ↓vlook_f, guard_none, guard_some, vgof_bool, load_ptr, load_ip, vld_one, vldp_one, blk_zero, faddr_ptr, vfap_some, iaddr_sl, vias_some, bin_int, int_lss, evG_eq, ↓vrun_cons, ↓run1_some, ↓runG_true, ↓run2_none, ↓run3_some, at_hp, List.getElem?_cons_zero, List.getElem?_cons_succ, Option.map_some, Option.bind_some, ↓reduceIte, reduceCtorEq, Nat.reduceLT, Nat.reduceBEq, Int.reduceLT, Int.reduceBEq, Int.toNat_natCast, Nat.zero_add, true_and, Bool.true_and, b_beq_f, beq_self_eq_true, pick_nil, pick_cons, pickO_some, Try.vt3, Try.vt27, Try.velem27, Try.vfield29x3, dec_t, hg]))
    | (refine vspine (id := 9) [0, 1, 2, 3, 4, 5, 6, 7] [] (by kernel_rfl) (by kernel_rfl) ?_; (try simp (config := { maxSteps := 2000000 }) (implicitDefEqProofs := false) (disch := first | omega | assumption | (simp only [List.length_cons, List.length_nil, Nat.zero_add]; done) | fail) only [vop_move, vcallee_move, vop_load, vcallee_load, vop_binOp, vcallee_binOp, vop_fieldAddr, vcallee_fieldAddr, vop_indexAddr, vcallee_indexAddr, bin2_tmp, strip_pv, strip_ptr, strip_ip, optV_none, ev_tmp, put_some, at_mk, fits_some, ↓look_cons, ↓vlook_t, ↓vlook_f, guard_none, ↓vrun_nil, ↓onNormal_normal, load_ptr, load_ip, vld_one, vldp_one, blk_zero, faddr_ptr, vfap_some, iaddr_sl, vias_some, bin_int, int_lss, evG_eq, ↓vrun_cons, ↓run1_some, ↓runG_true, ↓run2_none, ↓run3_some, ↓code_cond, ↓vtest_bool, at_hp, List.getElem?_cons_zero, List.getElem?_cons_succ, Option.map_some, ↓reduceIte, reduceCtorEq, Nat.reduceLT, Nat.reduceBEq, Int.reduceLT, Int.reduceBEq, Int.toNat_natCast, Nat.zero_add, Nat.add_zero, true_and, Bool.true_and, beq_self_eq_true, ↓vsp_nil, pick_nil, pick_cons, pickO_some, Try.vt3, Try.vt27, Try.velem27, Try.vfield29x0, Try.vfield29x3, dec_t, hg]))
    )
  all_goals first
    | (exact no2 s.i (by omega) (by rw [cbE]; simp only [Bool.and_eq_true, Bool.or_eq_true, decide_eq_true_eq]; omega))
    | (refine ⟨s.next (by omega) (by rw [cbE]; simp only [Bool.and_eq_true, Bool.or_eq_true, decide_eq_true_eq]; omega), by show bad.length - (s.i + 1) < bad.length - s.i; omega, ?_⟩
       show Weak _ ⟨177, 0, [(4, .int .i64 ((s.i + 1 : Nat) : Int)), (3, .int .i64 (R.own (s.i + 1))), (1, .ptr 0 0)], [⟨29, true, [.int .i64 pages, .int .i64 spares, .pv (.sl (fz encP places)), .pv (.sl (fz encI bad))]⟩]⟩
       rw [hos' (by omega)]
       first
         | (rw [if_pos (by omega)]; exact (by refine gc_of (keep := [0]) rfl rfl rfl (by decide) ?_ ?_ <;> (repeat' apply And.intro) <;> first | trivial | rfl | exact ⟨_, rfl, rfl, rfl, .inl ⟨rfl, rfl⟩⟩ | exact ⟨_, rfl, rfl, rfl, .inl ⟨cells_nums _ _ _, rfl⟩⟩ | exact ⟨_, rfl, rfl, rfl, .inl ⟨pvs_nums _ _, rfl⟩⟩ | exact ⟨_, rfl, rfl, rfl, .inr ⟨rfl, rfl⟩⟩))
         | (rw [if_neg (by omega), Nat.add_zero]; exact (by refine gc_of (keep := [0]) rfl rfl rfl (by decide) ?_ ?_ <;> (repeat' apply And.intro) <;> first | trivial | rfl | exact ⟨_, rfl, rfl, rfl, .inl ⟨rfl, rfl⟩⟩ | exact ⟨_, rfl, rfl, rfl, .inl ⟨cells_nums _ _ _, rfl⟩⟩ | exact ⟨_, rfl, rfl, rfl, .inl ⟨pvs_nums _ _, rfl⟩⟩ | exact ⟨_, rfl, rfl, rfl, .inr ⟨rfl, rfl⟩⟩)))
    | skip
  have hallB := s.all (by omega)
  have hin : s.i = bad.length := by omega
  rw [hin]
  refine vloopW (fun s : Okay places.length R.chkP => ⟨177, 0, [(5, .int .i64 s.i), (3, .int .i64 (R.own bad.length)), (1, .ptr 0 0)], [⟨29, true, [.int .i64 pages, .int .i64 spares, .pv (.sl (fz encP places)), .pv (.sl (fz encI bad))]⟩]⟩) (fun s => places.length - s.i) (Okay.start _ _) (.inl (by refine ⟨rfl, rfl, by simp, ?_, ?_, .inr ⟨?_, ?_⟩⟩ <;> (repeat' apply And.intro) <;> first | rfl | trivial | (intro _; first | rfl | apply cells_refs))) ?_
  clear hin hgp hg hi hos' hol'

  intro s
  have hi := s.hi
  have hg := fun h : s.i < places.length => fzP_at places s.i h
  have hgd := fun h : s.i < places.length => getD_eq places s.i h P0
  have hgp : 0 < (s.i : Int) → (s.i : Int) < places.length → (fz encP places)[((s.i : Int) - 1).toNat]? = some [.lit (.int .i64 (places.getD (s.i - 1) P0).pg), .lit (.int .i64 (places.getD (s.i - 1) P0).ad)] := fun h h2 => by
    rw [show ((s.i : Int) - 1).toNat = s.i - 1 by omega, getD_eq places (s.i - 1) (by omega)]; exact fzP_at places (s.i - 1) (by omega)
  have hb1 := fun h : s.i < places.length => rhas_v bad hs2 places[s.i].ad
  have hb2 := fun h : s.i < places.length => rhas_v bad hs2 places[s.i].pg
  (try simp (config := { maxSteps := 2000000 }) (implicitDefEqProofs := false) (disch := first | omega | assumption | (simp only []; done) | fail) only [vop_move, vcallee_move, vop_load, vcallee_load, vop_binOp, vcallee_binOp, vop_fieldAddr, vcallee_fieldAddr, vop_builtin, vcallee_builtin, bin2_tmp, strip_pv, strip_ptr, optV_none, ev_tmp, put_some, at_mk, fits_some, ↓look_cons, ↓vlook_t, ↓vlook_f, guard_none, ↓vrun_nil, ↓code_region, ↓code_seq, ↓onNormal_normal, load_ptr, vld_one, blk_zero, faddr_ptr, vfap_some, bin_int, int_lss, len_sl, vlk_sl, bi_len, evG_eq, ↓vrun_cons, ↓run1_some, ↓runG_true, ↓run2_none, ↓run3_some, ↓code_cond, ↓vtest_bool, at_hp, List.map_nil, List.getElem?_cons_zero, List.getElem?_cons_succ, List.map_cons, List.map_nil, Option.map_some, ↓reduceIte, reduceCtorEq, Nat.reduceLT, Nat.reduceBEq, Int.reduceLT, Int.reduceBEq, Nat.zero_add, true_and, Bool.true_and, beq_self_eq_true, fz_len, Try.vt26, Try.vkind26, Try.vfield29x2, dec_t])
  repeat' (first
    | (refine vrunG_split (fun hZ => ?_) (fun hZ => ?_) <;> (try rw [hZ]) <;> (try simp only [decide_eq_true_eq, decide_eq_false_iff_not, Bool.or_eq_true, Bool.and_eq_true, Bool.or_eq_false_iff, Bool.and_eq_false_imp, Bool.not_eq_true', Bool.not_eq_false', beq_iff_eq, beq_eq_false_iff_ne, bne_iff_ne, bne_eq_false_iff_eq, ne_eq, Bool.not_eq_eq_eq_not, Bool.not_true, Bool.not_false] at hZ) <;> (try (first | rw [(hZ : _ = false)] | rw [(hZ : _ = true)])) <;> (try simp (config := { maxSteps := 2000000 }) (implicitDefEqProofs := false) (disch := first | omega | assumption | (simp only [List.length_cons, List.length_nil, Nat.zero_add, Nat.reduceAdd]; done) | fail) only [vop_move, vcallee_move, vop_assign, vcallee_assign, vop_pick, vcallee_pick, vop_load, vcallee_load, vop_binOp, vcallee_binOp, vop_fieldAddr, vcallee_fieldAddr, vop_indexAddr, vcallee_indexAddr, vcallee_value, vcal_fn, bin2_tmp, bin2_int, vpick_bool, strip_pv, strip_ptr, strip_tup, strip_fn, strip_opt, vstr_true, optV_none, optV_some, pickV_bool, ev_tmp, ev_const, ev_func, ofConst_int, ofConst_bool, put_some, at_mk, fits_some, ↓look_cons, ↓vlook_t, ↓vlook_f, guard_none, guard_some, vgof_bool, vgof_opt, vgof_skip, ↓vrun_nil, ↓code_region, ↓code_seq, ↓code_ret, ↓onNormal_normal, ↓onNormal_ret, ↓onBlock_ret, frz_pv, frzHeap_zero, res_one, vres_tmp, load_ptr, load_ip, vld_one, vldp_one, blk_zero, blk_succ, faddr_ptr, vfap_some, faddr_ip, vfai_some, iaddr_sl, vias_some, bin_int, int_add, int_sub, int_lss, int_gtr, int_geq, evG_eq, ↓vrun_cons, ↓run1_some, ↓runG_true, ↓runG_false, ↓run2_none, ↓run2_some, ↓run3_some, ↓code_cond, ↓vtest_bool, ↓vbr_true, ↓vpost_ret, vfin_some, vfin2_some, at_hp, pickV_f, pickV_t, List.map_nil, List.getElem?_cons_zero, List.getElem?_cons_succ, List.map_cons, List.map_nil, List.nil_append, List.append_nil, List.drop_zero, Option.map_some, Option.bind_some, ↓reduceIte, reduceCtorEq, Nat.reduceLT, Nat.reduceBEq, Int.reduceLT, Int.reduceBEq, Nat.zero_add, Nat.add_zero, true_and, and_self, and_false, or_true, Bool.not_true, Bool.not_false, Bool.or_true, Bool.true_and, Bool.and_false, Bool.and_self, b_beq_t, b_beq_f, cond_true, cond_false, beq_self_eq_true, ↓vsp_nil, ↓vsp_cons, ↓vspK_eq, vspC_true, vspR_eq, pick_nil, pick_cons, pickO_some, creas_nil, agree_nil, Try.vt3, Try.vt26, Try.velem26, Try.vt27, Try.vfield29x0, Try.vfield29x1, Try.vfield29x2, Try.vfield29x3, Try.vfield73x0, Try.vfield73x1, wrap_i64_in, dec_t, dec_f, Ret, DV.nums, hgp]))
    | (refine vbr_split (fun hZ => ?_) (fun hZ => ?_) <;> (try rw [hZ]) <;> (try simp only [decide_eq_true_eq, decide_eq_false_iff_not, Bool.or_eq_true, Bool.and_eq_true, Bool.or_eq_false_iff, Bool.and_eq_false_imp, Bool.not_eq_true', Bool.not_eq_false', beq_iff_eq, beq_eq_false_iff_ne, bne_iff_ne, bne_eq_false_iff_eq, ne_eq, Bool.not_eq_eq_eq_not, Bool.not_true, Bool.not_false] at hZ) <;> (try (first | rw [(hZ : _ = false)] | rw [(hZ : _ = true)])) <;> (try simp (config := { maxSteps := 2000000 }) (implicitDefEqProofs := false) (disch := first | omega | assumption | (simp only [List.length_cons, List.length_nil, Nat.zero_add, Nat.reduceAdd]; done) | fail) only [vop_move, vcallee_move, vop_assign, vcallee_assign, vop_alloc, vcallee_alloc, vop_load, vcallee_load, vop_store, vcallee_store, vop_binOp, vcallee_binOp, vop_fieldAddr, vcallee_fieldAddr, vop_indexAddr, vcallee_indexAddr, vop_builtin, vcallee_builtin, bin2_tmp, strip_pv, strip_ptr, strip_ip, strip_agg, optV_none, ev_tmp, ev_const, ofConst_int, ofConst_bool, put_some, put_none, at_mk, fits_some, fits_none, ↓look_cons, ↓vlook_t, ↓vlook_f, guard_none, ↓vrun_nil, ↓code_skip, ↓code_region, ↓code_draw, ↓code_seq, ↓code_block, ↓code_loop, ↓code_exit, ↓code_ret, ↓onNormal_normal, ↓onNormal_ret, ↓onNormal_exit, ↓onBlock_ret, ↓onBlock_exit, frz_pv, frzHeap_zero, res_one, vres_tmp, load_ptr, load_ip, vld_one, vldp_agg, store_ptr, vst_agg, blk_zero, blk_succ, set_zero, set_succ, alloc_eq, val1_some, allOne_nil, allOne_cons, one_pv, faddr_ptr, vfap_some, iaddr_sl, vias_some, bin_int, int_eql, len_sl, vlk_sl, bi_len, evG_eq, ↓vrun_cons, ↓run1_some, ↓runG_true, ↓run2_none, ↓run3_some, ↓vpost_ret, vfin_some, vfin2_some, at_hp, List.map_nil, V.splice, List.getElem?_cons_zero, List.getElem?_cons_succ, List.length_cons, List.length_nil, List.map_cons, List.map_nil, List.cons_append, List.nil_append, List.append_nil, List.take_succ_cons, List.take_zero, List.take_nil, List.drop_succ_cons, List.drop_nil, Option.map_some, ↓reduceIte, reduceCtorEq, Nat.reduceAdd, Nat.reduceLT, Nat.reduceBEq, Int.reduceLT, Int.reduceAdd, Int.reduceBEq, Int.toNat_natCast, Nat.zero_add, true_and, and_self, Bool.true_and, Bool.and_self, beq_self_eq_true, Nat.le_refl, fz_len, Try.vt26, Try.velem26, Try.vkind26, Try.vfield29x2, Try.vt73, Try.vzero73, dec_t, dec_f, Ret, DV.nums, hg]))
    | (refine vdrG_split (fun hZ => ?_) (fun hZ => ?_) <;> (try rw [hZ]) <;> (try simp only [decide_eq_true_eq, decide_eq_false_iff_not, Bool.or_eq_true, Bool.and_eq_true, Bool.or_eq_false_iff, Bool.and_eq_false_imp, Bool.not_eq_true', Bool.not_eq_false', beq_iff_eq, beq_eq_false_iff_ne, bne_iff_ne, bne_eq_false_iff_eq, ne_eq, Bool.not_eq_eq_eq_not, Bool.not_true, Bool.not_false] at hZ) <;> (try (first | rw [(hZ : _ = false)] | rw [(hZ : _ = true)])) <;> skip)
    | (refine vc_pure (hb1 (by omega)) rfl ?_; (try simp (config := { maxSteps := 2000000 }) (implicitDefEqProofs := false) (disch := first | omega | assumption | (simp only []; done) | fail) only [vop_move, vcallee_move, vop_pick, vcallee_pick, vpick_bool, strip_pv, strip_opt, vstr_true, optV_none, optV_some, pickV_bool, ev_tmp, ev_const, ofConst_bool, put_some, at_mk, fits_some, ↓look_cons, ↓vlook_t, ↓vlook_f, guard_none, guard_some, vgof_bool, ↓vrun_nil, evG_eq, ↓vrun_cons, ↓run1_some, ↓runG_true, ↓run2_none, ↓run3_some, ↓runK_eq, at_hp, List.getElem?_cons_zero, List.getElem?_cons_succ, Option.map_some, Option.bind_some, Nat.reduceLT, Nat.reduceBEq, Int.reduceLT, Int.reduceBEq, true_and, or_true, Bool.not_true, Bool.not_false, Bool.or_true, Bool.true_and, b_beq_f, cond_false, beq_self_eq_true, ↓vspK_eq, vspC_true, vspR_eq, pick_nil, pick_cons, pickO_some, agree_nil, dec_t]))
    | (refine vc_pure (hb2 (by omega)) rfl ?_; (try simp (config := { maxSteps := 2000000 }) (implicitDefEqProofs := false) (disch := first | omega | assumption | (simp only []; done) | fail) only [vop_pick, vcallee_pick, vop_unOp, vcallee_unOp, vpick_bool, strip_pv, strip_opt, vstr_true, optV_none, optV_some, pickV_bool, ev_tmp, ev_const, ofConst_bool, put_some, at_mk, fits_some, ↓look_cons, ↓vlook_t, ↓vlook_f, guard_none, guard_some, vgof_bool, ↓vrun_nil, ↓onNormal_normal, un_not, evG_eq, ↓vrun_cons, ↓run1_some, ↓runG_true, ↓run2_none, ↓run3_some, ↓runK_eq, ↓code_cond, ↓vtest_bool, at_hp, List.getElem?_cons_zero, List.getElem?_cons_succ, Option.map_some, Option.bind_some, Nat.reduceLT, Nat.reduceBEq, Int.reduceLT, Int.reduceBEq, true_and, or_true, Bool.not_true, Bool.not_false, Bool.or_true, Bool.true_and, cond_false, beq_self_eq_true, ↓vsp_nil, ↓vspK_eq, vspC_true, vspR_eq, pick_nil, pick_cons, pickO_some, agree_nil, dec_t]))
    | (refine vspineT (id := 15) [[], [0], [0, 1], [0, 1, 2], [0, 1, 2, 3], [0, 1, 2, 3, 4], [0, 1, 2, 3], [0, 1, 2, 3, 6], [0, 1, 2, 3, 4, 5, 6, 7], [0, 1, 2, 3, 4, 5, 6, 7, 8], [0, 1, 2, 3, 4, 5, 6, 7, 8, 9], [0, 1, 2, 3, 4, 5, 6, 7, 8, 9, 10], [0, 1, 2, 3, 4, 5, 6, 7, 8, 9, 10, 11], [0, 1, 2, 3, 4, 5, 6, 7, 8, 9, 10, 11, 12], [0, 1, 2, 3, 4, 5, 6, 7, 8, 9, 10, 11, 12, 13], [0, 1, 2, 3, 4, 5, 6, 7, 8, 9, 10, 11, 12, 13, 14], [0, 1, 2, 3, 4, 5, 6, 7, 8, 9, 10, 11, 12, 13], [0, 1, 2, 3, 4, 5, 6, 7, 8, 9, 10, 11, 12, 13, 16], [0, 1, 2, 3, 4, 5, 6, 7, 8, 9, 10, 11, 12, 13, 14, 15, 16, 17], [0, 1, 2, 3, 4, 5, 6, 7, 8, 9, 10, 11, 12, 13, 14, 15, 16, 17, 18], [0, 1, 2, 3, 4, 5, 6, 7, 8, 9, 10, 11, 12, 13, 14, 15, 16, 17, 18, 19], [0, 1, 2, 3, 4, 5, 6, 7, 8, 9, 10, 11, 12, 13], [0, 1, 2, 3, 4, 5, 6, 7, 8, 9, 10, 11, 12, 13, 21], [0, 1, 2, 3, 4, 5, 6, 7, 8, 9, 10, 11, 12, 13, 14, 15, 16, 17, 18, 19, 20, 21, 22], [0, 1, 2, 3, 4, 5, 6, 7, 8, 9, 10, 11, 12, 13, 14, 15, 16, 17, 18, 19, 20, 21, 22, 23], [0, 1, 2, 3, 4, 5, 6, 7, 8, 9, 10, 11, 12, 13, 14, 15, 16, 17, 18, 19, 20, 21, 22, 23, 24], [0, 1, 2, 3, 4, 5, 6, 7, 8, 9, 10, 11, 12, 13, 14, 15, 16, 17, 18, 19, 20, 21, 22, 23, 24, 25], [0, 1, 2, 3, 4, 5, 6, 7, 8, 9, 10, 11, 12, 13, 14, 15, 16, 17, 18, 19, 20, 21, 22, 23, 24, 25, 26], [0, 1, 2, 3, 4, 5, 6, 7, 8, 9, 10, 11, 12, 13, 14, 15, 16, 17, 18, 19, 20, 21, 22, 23, 24, 25, 26, 27], [0, 1, 2, 3, 4, 5, 6, 7, 8, 9, 10, 11, 12, 13, 14, 15, 16, 17, 18, 19, 20, 21, 22, 23, 24, 25, 26], [0, 1, 2, 3, 4, 5, 6, 7, 8, 9, 10, 11, 12, 13, 14, 15, 16, 17, 18, 19, 20, 21, 22, 23, 24, 25, 26, 29], [0, 1, 2, 3, 4, 5, 6, 7, 8, 9, 10, 11, 12, 13, 14, 15, 16, 17, 18, 19, 20, 21, 22, 23, 24, 25, 26, 27, 28, 29, 30], [0, 1, 2, 3, 4, 5, 6, 7, 8, 9, 10, 11, 12, 13, 14, 15, 16, 17, 18, 19, 20, 21, 22, 23, 24, 25, 26, 27, 28, 29, 30, 31], [0, 1, 2, 3, 4, 5, 6, 7, 8, 9, 10, 11, 12, 13, 14, 15, 16, 17, 18, 19, 20, 21, 22, 23, 24, 25, 26, 27, 28, 29, 30, 31, 32], [0, 1, 2, 3, 4, 5, 6, 7, 8, 9, 10, 11, 12, 13, 14, 15, 16, 17, 18, 19, 20, 21, 22, 23, 24, 25, 26, 27, 28, 29, 30, 31, 32, 33], [0, 1, 2, 3, 4, 5, 6, 7, 8, 9, 10, 11, 12, 13, 14, 15, 16, 17, 18, 19, 20, 21, 22, 23, 24, 25, 26, 27, 28, 29, 30, 31, 32, 33, 34], [0, 1, 2, 3, 4, 5, 6, 7, 8, 9, 10, 11, 12, 13, 14, 15, 16, 17, 18, 19, 20, 21, 22, 23, 24, 25, 26, 27, 28, 29, 30, 31, 32, 33], [0, 1, 2, 3, 4, 5, 6, 7, 8, 9, 10, 11, 12, 13, 14, 15, 16, 17, 18, 19, 20, 21, 22, 23, 24, 25, 26, 27, 28, 29, 30, 31, 32, 33, 36], [0, 1, 2, 3, 4, 5, 6, 7, 8, 9, 10, 11, 12, 13, 14, 15, 16, 17, 18, 19, 20, 21, 22, 23, 24, 25, 26, 27, 28, 29, 30, 31, 32, 33], [0, 1, 2, 3, 4, 5, 6, 7, 8, 9, 10, 11, 12, 13, 14, 15, 16, 17, 18, 19, 20, 21, 22, 23, 24, 25, 26, 27, 28, 29, 30, 31, 32, 33, 38], [0, 1, 2, 3, 4, 5, 6, 7, 8, 9, 10, 11, 12, 13, 14, 15, 16, 17, 18, 19, 20, 21, 22, 23, 24, 25, 26, 27, 28, 29, 30, 31, 32, 33, 36, 37, 38, 39], [0, 1, 2, 3, 4, 5, 6, 7, 8, 9, 10, 11, 12, 13, 14, 15, 16, 17, 18, 19, 20, 21, 22, 23, 24, 25, 26, 27, 28, 29, 30, 31, 32, 33, 34, 35, 36, 37, 38, 39, 40], [0, 1, 2, 3, 4, 5, 6, 7, 8, 9, 10, 11, 12, 13, 14, 15, 16, 17, 18, 19, 20, 21, 22, 23, 24, 25, 26, 27, 28, 29, 30, 31, 32, 33, 34, 35, 36, 37, 38, 39, 40, 41], [0, 1, 2, 3, 4, 5, 6, 7, 8, 9, 10, 11, 12, 13, 14, 15, 16, 17, 18, 19, 20, 21, 22, 23, 24, 25, 26, 27, 28, 29, 30, 31, 32, 33, 34, 35, 36, 37, 38, 39, 40, 41, 42], [0, 1, 2, 3, 4, 5, 6, 7, 8, 9, 10, 11, 12, 13, 14, 15, 16, 17, 18, 19, 20, 21, 22, 23, 24, 25, 26, 27, 28, 29, 30, 31, 32, 33, 34, 35, 36, 37, 38, 39, 40, 41, 42, 43], [0, 1, 2, 3, 4, 5, 6, 7, 8, 9, 10, 11, 12, 13, 14, 15, 16, 17, 18, 19, 20, 21, 22, 23, 24, 25, 26, 27, 28, 29, 30, 31, 32, 33, 34, 35, 36, 37, 38, 39, 40, 41, 42, 43, 44], [0, 1, 2, 3, 4, 5, 6, 7, 8, 9, 10, 11, 12, 13, 14, 15, 16, 17, 18, 19, 20, 21, 22, 23, 24, 25, 26, 27, 28, 29, 30, 31, 32, 33, 34, 35, 36, 37, 38, 39, 40, 41, 42, 43], [0, 1, 2, 3, 4, 5, 6, 7, 8, 9, 10, 11, 12, 13, 14, 15, 16, 17, 18, 19, 20, 21, 22, 23, 24, 25, 26, 27, 28, 29, 30, 31, 32, 33, 34, 35, 36, 37, 38, 39, 40, 41, 42, 43, 46], [0, 1, 2, 3, 4, 5, 6, 7, 8, 9, 10, 11, 12, 13, 14, 15, 16, 17, 18, 19, 20, 21, 22, 23, 24, 25, 26, 27, 28, 29, 30, 31, 32, 33, 34, 35, 36, 37, 38, 39, 40, 41, 42, 43, 44, 45, 46, 47], [0, 1, 2, 3, 4, 5, 6, 7, 8, 9, 10, 11, 12, 13, 14, 15, 16, 17, 18, 19, 20, 21, 22, 23, 24, 25, 26, 27, 28, 29, 30, 31, 32, 33, 34, 35, 36, 37, 38, 39, 40, 41, 42, 43, 44, 45, 46, 47, 48], [0, 1, 2, 3, 4, 5, 6, 7, 8, 9, 10, 11, 12, 13, 14, 15, 16, 17, 18, 19, 20, 21, 22, 23, 24, 25, 26, 27, 28, 29, 30, 31, 32, 33, 34, 35, 36, 37, 38, 39, 40, 41, 42, 43, 44, 45, 46, 47, 48, 49], [0, 1, 2, 3, 4, 5, 6, 7, 8, 9, 10, 11, 12, 13, 14, 15, 16, 17, 18, 19, 20, 21, 22, 23, 24, 25, 26, 27, 28, 29, 30, 31, 32, 33, 34, 35, 36, 37, 38, 39, 40, 41, 42, 43, 44, 45, 46, 47, 48, 49, 50], [0, 1, 2, 3, 4, 5, 6, 7, 8, 9, 10, 11, 12, 13, 14, 15, 16, 17, 18, 19, 20, 21, 22, 23, 24, 25, 26, 27, 28, 29, 30, 31, 32, 33, 34, 35, 36, 37, 38, 39, 40, 41, 42, 43, 44, 45, 46, 47, 48, 49, 50, 51], [0, 1, 2, 3, 4, 5, 6, 7, 8, 9, 10, 11, 12, 13, 14, 15, 16, 17, 18, 19, 20, 21, 22, 23, 24, 25, 26, 27, 28, 29, 30, 31, 32, 33, 34, 35, 36, 37, 38, 39, 40, 41, 42, 43, 44, 45, 46, 47, 48, 49, 50], [0, 1, 2, 3, 4, 5, 6, 7, 8, 9, 10, 11, 12, 13, 14, 15, 16, 17, 18, 19, 20, 21, 22, 23, 24, 25, 26, 27, 28, 29, 30, 31, 32, 33, 34, 35, 36, 37, 38, 39, 40, 41, 42, 43, 44, 45, 46, 47, 48, 49, 50, 53], [0, 1, 2, 3, 4, 5, 6, 7, 8, 9, 10, 11, 12, 13, 14, 15, 16, 17, 18, 19, 20, 21, 22, 23, 24, 25, 26, 27, 28, 29, 30, 31, 32, 33, 34, 35, 36, 37, 38, 39, 40, 41, 42, 43, 44, 45, 46, 47, 48, 49, 50, 51, 52, 53, 54], [0, 1, 2, 3, 4, 5, 6, 7, 8, 9, 10, 11, 12, 13, 14, 15, 16, 17, 18, 19, 20, 21, 22, 23, 24, 25, 26, 27, 28, 29, 30, 31, 32, 33, 34, 35, 36, 37, 38, 39, 40, 41, 42, 43, 44, 45, 46, 47, 48, 49, 50, 51, 52, 53, 54, 55], [0, 1, 2, 3, 4, 5, 6, 7, 8, 9, 10, 11, 12, 13, 14, 15, 16, 17, 18, 19, 20, 21, 22, 23, 24, 25, 26, 27, 28, 29, 30, 31, 32, 33, 34, 35, 36, 37, 38, 39, 40, 41, 42, 43, 44, 45, 46, 47, 48, 49, 50, 51, 52, 53, 54, 55, 56]] [0, 1, 2, 3, 4, 5, 6, 7, 8, 9, 10, 11, 12, 13, 14, 15, 16, 17, 18, 19, 20, 21, 22, 23, 24, 25, 26, 27, 28, 29, 30, 31, 32, 33, 34, 35, 36, 37, 38, 39, 40, 41, 42, 43, 44, 45, 46, 47] [⟨[], [], 48, [], [49, 50, 51, 52, 53, 54]⟩, ⟨[], [], 55, [], [56, 57]⟩] (by kernel_rfl) (by kernel_rfl) (by kernel_rfl) ?_; (try simp (config := { maxSteps := 2000000 }) (implicitDefEqProofs := false) (disch := first | omega | assumption | (simp only []; done) | fail) only [vop_move, vcallee_move, vop_load, vcallee_load, vop_binOp, vcallee_binOp, vop_fieldAddr, vcallee_fieldAddr, bin2_int, strip_pv, strip_ptr, optV_none, ev_tmp, ev_const, ofConst_int, put_some, at_mk, fits_some, ↓look_cons, ↓vlook_t, guard_none, guard_some, vgof_bool, load_ptr, vld_one, blk_zero, blk_succ, faddr_ptr, vfap_some, bin_int, int_lss, evG_eq, ↓vrun_cons, ↓run1_some, ↓runG_true, ↓run2_none, ↓run3_some, at_hp, List.getElem?_cons_zero, List.getElem?_cons_succ, Option.map_some, Option.bind_some, ↓reduceIte, reduceCtorEq, Nat.reduceLT, Int.reduceLT, Nat.add_zero, true_and, Bool.true_and, b_beq_f, beq_self_eq_true, pick_nil, pick_cons, pickO_some, Try.vt3, Try.vfield73x0, dec_t]))
    )
  all_goals first
    | (exact no3 s.i (by omega) (fun h => by
         rw [cpE, hgd (by omega)] at h
         simp only [Bool.and_eq_true, Bool.or_eq_true, Bool.not_eq_true', decide_eq_true_eq, decide_eq_false_iff_not] at h
         obtain ⟨⟨⟨⟨⟨⟨⟨h1, h2⟩, h3⟩, h4⟩, h5⟩, h6⟩, h7⟩, h8⟩ := h
         first | omega | exact absurd h4 hZ | exact absurd hZ h7))
    | skip
  rotate_right
  · have hpl := s.all (by omega)
    have hin : s.i = places.length := by omega
    rw [okE, hhd, hallB, hpl]
    congr 3
    rw [Bool.eq_iff_iff]
    simp only [Bool.and_eq_true, beq_iff_eq, true_and]
    omega
  all_goals
    have hlt : s.i < places.length := by omega
    have hck : (¬ places[s.i].ad ∈ (places.take s.i).map (·.ad)) → R.chkP s.i = true := fun h => by
      rw [cpE, hgd hlt]
      simp only [Bool.and_eq_true, Bool.or_eq_true, Bool.not_eq_true', decide_eq_true_eq, decide_eq_false_iff_not]
      refine ⟨⟨⟨⟨⟨⟨⟨by omega, by omega⟩, by omega⟩, by assumption⟩, by omega⟩, by omega⟩, by assumption⟩, h⟩
    have hck2 : places[s.i].ad ∈ (places.take s.i).map (·.ad) → ¬ R.chkP s.i = true := fun h h2 => by
      rw [cpE, hgd hlt] at h2
      simp only [Bool.and_eq_true, Bool.or_eq_true, Bool.not_eq_true', decide_eq_true_eq, decide_eq_false_iff_not] at h2
      exact h2.2 h
    refine vloopW (fun q : {k : Nat // k ≤ s.i ∧ ∀ j (hj : j < places.length), j < k → ¬ places[j].ad = places[s.i].ad} => ⟨177, 0, [(7, .int .i64 q.1), (6, .ptr 1 0), (5, .int .i64 s.i), (3, .int .i64 (R.own bad.length)), (1, .ptr 0 0)], [⟨29, true, [.int .i64 pages, .int .i64 spares, .pv (.sl (fz encP places)), .pv (.sl (fz encI bad))]⟩, ⟨73, true, [.int .i64 (places[s.i]'hlt).pg, .int .i64 (places[s.i]'hlt).ad]⟩]⟩) (fun q => s.i - q.1) ⟨0, Nat.zero_le _, fun j _ h => by omega⟩ (by exact (by refine gc_of (keep := [0, 1]) rfl rfl rfl (by decide) ?_ ?_ <;> (repeat' apply And.intro) <;> first | trivial | rfl | exact ⟨_, rfl, rfl, rfl, .inl ⟨rfl, rfl⟩⟩ | exact ⟨_, rfl, rfl, rfl, .inl ⟨cells_nums _ _ _, rfl⟩⟩ | exact ⟨_, rfl, rfl, rfl, .inl ⟨pvs_nums _ _, rfl⟩⟩ | exact ⟨_, rfl, rfl, rfl, .inr ⟨rfl, rfl⟩⟩)) ?_
    clear hb1 hb2 hg hgp
    rintro ⟨k, hk, hkn⟩
    dsimp only
    have hgk := fun h : k < places.length => fzP_at places k h
    (try simp (config := { maxSteps := 2000000 }) (implicitDefEqProofs := false) (disch := first | omega | assumption | (simp only []; done) | fail) only [vop_move, vcallee_move, vop_assign, vcallee_assign, vop_binOp, vcallee_binOp, bin2_tmp, bin2_int, strip_pv, optV_none, ev_tmp, ev_const, ofConst_int, put_some, at_mk, fits_some, ↓look_cons, ↓vlook_t, ↓vlook_f, guard_none, ↓vrun_nil, ↓code_region, ↓code_seq, ↓code_exit, ↓onNormal_normal, ↓onNormal_exit, ↓onBlock_normal, ↓onBlock_exit, bin_int, int_add, int_lss, evG_eq, ↓vrun_cons, ↓run1_some, ↓runG_true, ↓run2_none, ↓run3_some, ↓code_cond, ↓vtest_bool, ↓vbr_false, at_hp, Option.map_some, ↓reduceIte, Nat.reduceLT, Nat.reduceBEq, Int.reduceLT, Int.reduceBEq, true_and, Bool.true_and, beq_self_eq_true, wrap_i64_in, dec_t, dec_f])
    repeat' (first
      | (refine vrunG_split (fun hZ => ?_) (fun hZ => ?_) <;> (try rw [hZ]) <;> (try simp only [decide_eq_true_eq, decide_eq_false_iff_not, Bool.or_eq_true, Bool.and_eq_true, Bool.or_eq_false_iff, Bool.and_eq_false_imp, Bool.not_eq_true', Bool.not_eq_false', beq_iff_eq, beq_eq_false_iff_ne, bne_iff_ne, bne_eq_false_iff_eq, ne_eq, Bool.not_eq_eq_eq_not, Bool.not_true, Bool.not_false] at hZ) <;> (try (first | rw [(hZ : _ = false)] | rw [(hZ : _ = true)])) <;> skip)
      | (refine vbr_split (fun hZ => ?_) (fun hZ => ?_) <;> (try rw [hZ]) <;> (try simp only [decide_eq_true_eq, decide_eq_false_iff_not, Bool.or_eq_true, Bool.and_eq_true, Bool.or_eq_false_iff, Bool.and_eq_false_imp, Bool.not_eq_true', Bool.not_eq_false', beq_iff_eq, beq_eq_false_iff_ne, bne_iff_ne, bne_eq_false_iff_eq, ne_eq, Bool.not_eq_eq_eq_not, Bool.not_true, Bool.not_false] at hZ) <;> (try (first | rw [(hZ : _ = false)] | rw [(hZ : _ = true)])) <;> (try simp (config := { maxSteps := 2000000 }) (implicitDefEqProofs := false) (disch := first | omega | assumption | (simp only []; done) | fail) only [vop_move, vcallee_move, vop_assign, vcallee_assign, vop_binOp, vcallee_binOp, bin2_int, strip_pv, optV_none, ev_tmp, ev_const, ofConst_int, ofConst_bool, put_some, at_mk, fits_some, ↓look_cons, ↓vlook_t, ↓vlook_f, guard_none, ↓vrun_nil, ↓code_skip, ↓code_region, ↓code_draw, ↓code_seq, ↓code_block, ↓code_exit, ↓code_ret, ↓onNormal_normal, ↓onNormal_ret, ↓onNormal_exit, ↓onBlock_normal, ↓onBlock_ret, ↓onBlock_exit, frz_pv, frzHeap_zero, res_one, vres_tmp, bin_int, int_add, evG_eq, ↓vrun_cons, ↓run1_some, ↓runG_true, ↓run2_none, ↓run3_some, ↓vpost_ret, vfin_some, vfin2_some, at_hp, Option.map_some, ↓reduceIte, Nat.reduceLT, Nat.reduceBEq, Int.reduceLT, Int.reduceBEq, true_and, Bool.true_and, beq_self_eq_true, wrap_i64_in, dec_t, Ret, DV.nums]))
      | (refine vdrG_split (fun hZ => ?_) (fun hZ => ?_) <;> (try rw [hZ]) <;> (try simp only [decide_eq_true_eq, decide_eq_false_iff_not, Bool.or_eq_true, Bool.and_eq_true, Bool.or_eq_false_iff, Bool.and_eq_false_imp, Bool.not_eq_true', Bool.not_eq_false', beq_iff_eq, beq_eq_false_iff_ne, bne_iff_ne, bne_eq_false_iff_eq, ne_eq, Bool.not_eq_eq_eq_not, Bool.not_true, Bool.not_false] at hZ) <;> (try (first | rw [(hZ : _ = false)] | rw [(hZ : _ = true)])) <;> skip)
      | (refine vspine (id := 20) [0, 1, 2, 3, 4, 5, 6, 7, 8] [] (by kernel_rfl) (by kernel_rfl) ?_; (try simp (config := { maxSteps := 2000000 }) (implicitDefEqProofs := false) (disch := first | omega | assumption | (simp only [List.length_cons, List.length_nil, Nat.zero_add, Nat.reduceAdd]; done) | fail) only [vop_move, vcallee_move, vop_load, vcallee_load, vop_binOp, vcallee_binOp, vop_fieldAddr, vcallee_fieldAddr, vop_indexAddr, vcallee_indexAddr, bin2_tmp, strip_pv, strip_ptr, strip_ip, optV_none, ev_tmp, put_some, at_mk, fits_some, ↓look_cons, ↓vlook_t, ↓vlook_f, guard_none, ↓vrun_nil, ↓onNormal_normal, load_ptr, load_ip, vld_one, vldp_one, blk_zero, blk_succ, faddr_ptr, vfap_some, faddr_ip, vfai_some, iaddr_sl, vias_some, bin_int, int_eql, evG_eq, ↓vrun_cons, ↓run1_some, ↓runG_true, ↓run2_none, ↓run3_some, ↓code_cond, ↓vtest_bool, at_hp, List.getElem?_cons_zero, List.getElem?_cons_succ, List.drop_succ_cons, List.drop_zero, Option.map_some, ↓reduceIte, reduceCtorEq, Nat.reduceLT, Nat.reduceBEq, Int.reduceLT, Int.reduceBEq, Int.toNat_natCast, Nat.zero_add, true_and, Bool.true_and, beq_self_eq_true, ↓vsp_nil, pick_nil, pick_cons, pickO_some, Try.vt3, Try.vt26, Try.velem26, Try.vfield29x2, Try.vfield73x1, dec_t, hgk]))
      )
  all_goals first
    | (exact no3 s.i hlt (hck2 (List.mem_map.2 ⟨places[k], List.mem_take_iff_getElem.2 ⟨k, by omega, rfl⟩, hZ⟩)))
    | (refine ⟨⟨k + 1, by omega, fun j hj h => ?_⟩, by show s.i - (k + 1) < s.i - k; omega, (by refine gc_of (keep := [0, 1]) rfl rfl rfl (by decide) ?_ ?_ <;> (repeat' apply And.intro) <;> first | trivial | rfl | exact ⟨_, rfl, rfl, rfl, .inl ⟨rfl, rfl⟩⟩ | exact ⟨_, rfl, rfl, rfl, .inl ⟨cells_nums _ _ _, rfl⟩⟩ | exact ⟨_, rfl, rfl, rfl, .inl ⟨pvs_nums _ _, rfl⟩⟩ | exact ⟨_, rfl, rfl, rfl, .inr ⟨rfl, rfl⟩⟩)⟩
       rcases Nat.lt_or_ge j k with h2 | h2
       · exact hkn j hj h2
       · have h3 : j = k := by omega
         subst h3; exact hZ)
    | (refine ⟨s.next hlt (hck fun h => ?_), by show places.length - (s.i + 1) < places.length - s.i; omega, (by refine gc_of (keep := [0]) rfl rfl rfl (by decide) ?_ ?_ <;> (repeat' apply And.intro) <;> first | trivial | rfl | exact ⟨_, rfl, rfl, rfl, .inl ⟨rfl, rfl⟩⟩ | exact ⟨_, rfl, rfl, rfl, .inl ⟨cells_nums _ _ _, rfl⟩⟩ | exact ⟨_, rfl, rfl, rfl, .inl ⟨pvs_nums _ _, rfl⟩⟩ | exact ⟨_, rfl, rfl, rfl, .inr ⟨rfl, rfl⟩⟩)⟩
       obtain ⟨p, hp, hpe⟩ := List.mem_map.1 h
       obtain ⟨j, hj, hje⟩ := List.mem_take_iff_getElem.1 hp
       exact hkn j (by omega) (by omega) (hje ▸ hpe))
    | skip
end Go.Proofs.Ytjjjlkjhojdnnaa

namespace Go.Proofs.Ytjjjlkjhojdnnaa
open Go.V Go
set_option maxRecDepth 100000
set_option pp.deepTerms true
set_option pp.deepTerms.threshold 100000
set_option pp.maxSteps 1000000
set_option pp.proofs false
set_option linter.unusedSimpArgs false

theorem find_at (l : List Pl) (q : Pl → Bool) (i : Nat) (hi : i < l.length) (h1 : q l[i] = true) (h2 : ∀ j, ∀ hj : j < l.length, j < i → q l[j] = false) : l.find? q = some l[i] :=
  List.find?_eq_some_iff_getElem.2 ⟨h1, i, hi, rfl, fun j hj => by rw [h2 j (by omega) hj]; rfl⟩
theorem find_no (l : List Pl) (q : Pl → Bool) (h2 : ∀ j, ∀ hj : j < l.length, q l[j] = false) : l.find? q = none := by
  rw [List.find?_eq_none]
  intro x hx
  obtain ⟨j, hj, rfl⟩ := List.getElem_of_mem hx
  rw [h2 j hj]; decide
theorem rwhere_v (r : Rm) (hs : r.sm) (y : Int) : VCalls Try.prog 20 [.agg r.d, .int .i64 y] [] (Ret (if r.okB = true then if y < 0 ∨ r.pages ≤ y then .tup [.int .i64 0, .int .i64 1] else .tup [.int .i64 (r.whereS y), .int .i64 0] else .tup [.int .i64 0, .int .i64 48])) := by
  refine vcalls_drop (fn := Try.f20) Try.func20 rfl (by kernel_rfl) (by simp [Try.f20]) ?_
  have hv := rvalid_v r hs
  obtain ⟨B, hB⟩ : ∃ B, B = r.okB := ⟨_, rfl⟩
  rw [← hB] at hv ⊢
  obtain ⟨pages, spares, places, bad⟩ := r
  obtain ⟨hs1, hs2⟩ := hs
  dsimp only [Rm.d] at *
  obtain ⟨w, hw⟩ : ∃ w, w = Rm.whereS ⟨pages, spares, places, bad⟩ y := ⟨_, rfl⟩
  rw [← hw]
  simp (config := { maxSteps := 2000000 }) (implicitDefEqProofs := false) (disch := first | omega | assumption | (simp only []; done) | fail) only [vop_assign, vcallee_assign, vop_box, vcallee_box, vop_load, vcallee_load, vcallee_value, vcal_fn, strip_pv, strip_ptr, strip_agg, strip_fn, optV_none, ev_tmp, ev_const, ev_func, ofConst_int, put_some, at_mk, fits_some, ↓look_cons, ↓vlook_t, ↓vlook_f, guard_none, ↓vrun_nil, ↓code_region, ↓code_seq, ↓onNormal_normal, load_ptr, vld_agg, blk_zero, box_eq, allOne_nil, allOne_cons, one_pv, enum_nil, enum_cons, evG_eq, ↓vrun_cons, ↓run1_some, ↓runG_true, ↓run2_none, ↓run2_some, ↓run3_some, at_hp, List.map_nil, dcells, List.toList_toArray, List.length_cons, List.length_nil, List.map_cons, List.map_nil, List.nil_append, List.append_nil, List.take_succ_cons, List.take_nil, List.drop_zero, Option.map_some, ↓reduceIte, Nat.reduceAdd, Nat.reduceLT, Nat.reduceBEq, Int.reduceLT, Int.reduceAdd, Int.reduceBEq, Nat.zero_add, true_and, and_self, Bool.true_and, Bool.and_self, beq_self_eq_true, Nat.le_refl, Try.vt29, dec_t, Try.f20]
  skip
  repeat' (first
    | (refine vrunG_split (fun hZ => ?_) (fun hZ => ?_) <;> (try rw [hZ]) <;> (try simp only [decide_eq_true_eq, decide_eq_false_iff_not, Bool.or_eq_true, Bool.and_eq_true, Bool.or_eq_false_iff, Bool.and_eq_false_imp, Bool.not_eq_true', Bool.not_eq_false', beq_iff_eq, beq_eq_false_iff_ne, bne_iff_ne, bne_eq_false_iff_eq, ne_eq, Bool.not_eq_eq_eq_not, Bool.not_true, Bool.not_false] at hZ) <;> (try (first | rw [(hZ : _ = false)] | rw [(hZ : _ = true)])) <;> (try simp (config := { maxSteps := 2000000 }) (implicitDefEqProofs := false) (disch := first | omega | assumption | (simp only []; done) | fail) only [vop_move, vcallee_move, vop_assign, vcallee_assign, vop_pick, vcallee_pick, vop_load, vcallee_load, vop_binOp, vcallee_binOp, vop_fieldAddr, vcallee_fieldAddr, bin2_tmp, vpick_bool, strip_pv, strip_ptr, strip_tup, strip_opt, vstr_true, optV_none, optV_some, pickV_bool, ev_tmp, ev_const, ofConst_int, ofConst_bool, put_some, at_mk, fits_some, ↓look_cons, ↓vlook_t, ↓vlook_f, guard_none, guard_some, vgof_bool, ↓vrun_nil, ↓code_region, ↓code_seq, ↓code_ret, ↓onNormal_normal, ↓onNormal_ret, frz_tup, frzT_pv, allSome_nil, allSome_cons, frzHeap_zero, res_two, vres_tmp, load_ptr, vld_one, blk_zero, faddr_ptr, vfap_some, bin_int, int_geq, evG_eq, ↓vrun_cons, ↓run1_some, ↓runG_true, ↓runG_false, ↓run2_none, ↓run3_some, ↓code_cond, ↓vtest_bool, ↓vbr_true, ↓vpost_ret, vfin_some, vfin2_some, at_hp, pickV_t, List.map_nil, List.getElem?_cons_zero, List.getElem?_cons_succ, List.map_cons, List.map_nil, Option.map_some, Option.bind_some, ↓reduceIte, reduceCtorEq, Nat.reduceLT, Nat.reduceBEq, Int.reduceLT, Int.reduceBEq, Nat.add_zero, true_and, and_self, or_true, Bool.not_true, Bool.not_false, Bool.or_true, Bool.true_and, Bool.and_self, b_beq_f, cond_false, beq_self_eq_true, DV.wk.go, Try.vt3, Try.vfield29x0, dec_t, dec_f, Ret, DV.nums, DV.nums.go]))
    | (refine vbr_split (fun hZ => ?_) (fun hZ => ?_) <;> (try rw [hZ]) <;> (try simp only [decide_eq_true_eq, decide_eq_false_iff_not, Bool.or_eq_true, Bool.and_eq_true, Bool.or_eq_false_iff, Bool.and_eq_false_imp, Bool.not_eq_true', Bool.not_eq_false', beq_iff_eq, beq_eq_false_iff_ne, bne_iff_ne, bne_eq_false_iff_eq, ne_eq, Bool.not_eq_eq_eq_not, Bool.not_true, Bool.not_false] at hZ) <;> (try (first | rw [(hZ : _ = false)] | rw [(hZ : _ = true)])) <;> (try simp (config := { maxSteps := 2000000 }) (implicitDefEqProofs := false) (disch := first | omega | assumption | (simp only []; done) | fail) only [vop_move, vcallee_move, vop_assign, vcallee_assign, vop_binOp, vcallee_binOp, bin2_int, strip_pv, optV_none, ev_tmp, ev_const, ofConst_int, put_some, at_mk, fits_some, ↓look_cons, ↓vlook_t, ↓vlook_f, guard_none, guard_some, vgof_bool, ↓vrun_nil, ↓code_skip, ↓code_region, ↓code_seq, ↓code_block, ↓code_loop, ↓code_ret, ↓onNormal_normal, ↓onNormal_ret, frz_tup, frzT_pv, allSome_nil, allSome_cons, frzHeap_zero, res_two, vres_tmp, bin_int, int_lss, evG_eq, ↓vrun_cons, ↓run1_some, ↓runG_true, ↓run2_none, ↓run3_some, ↓vpost_ret, vfin_some, vfin2_some, at_hp, List.map_nil, List.getElem?_cons_zero, List.getElem?_cons_succ, List.map_cons, List.map_nil, Option.map_some, Option.bind_some, ↓reduceIte, Bool.false_eq_true, Nat.reduceLT, Nat.reduceBEq, Int.reduceLT, Int.reduceBEq, true_and, and_self, Bool.true_and, Bool.and_self, b_beq_f, beq_self_eq_true, DV.wk.go, dec_t, Ret, DV.nums, DV.nums.go]))
    | (refine vdrG_split (fun hZ => ?_) (fun hZ => ?_) <;> (try rw [hZ]) <;> (try simp only [decide_eq_true_eq, decide_eq_false_iff_not, Bool.or_eq_true, Bool.and_eq_true, Bool.or_eq_false_iff, Bool.and_eq_false_imp, Bool.not_eq_true', Bool.not_eq_false', beq_iff_eq, beq_eq_false_iff_ne, bne_iff_ne, bne_eq_false_iff_eq, ne_eq, Bool.not_eq_eq_eq_not, Bool.not_true, Bool.not_false] at hZ) <;> (try (first | rw [(hZ : _ = false)] | rw [(hZ : _ = true)])) <;> skip)
    | (refine vc_pure (hv) rfl ?_; (try simp (config := { maxSteps := 2000000 }) (implicitDefEqProofs := false) (disch := first | omega | assumption | (simp only []; done) | fail) only [vop_unOp, vcallee_unOp, strip_pv, optV_none, ev_tmp, put_some, at_mk, fits_some, ↓look_cons, ↓vlook_t, guard_none, ↓vrun_nil, ↓onNormal_normal, un_not, evG_eq, ↓vrun_cons, ↓run1_some, ↓runG_true, ↓run2_none, ↓run3_some, ↓runK_eq, ↓code_cond, ↓vtest_bool, at_hp, Option.map_some, Nat.reduceLT, Int.reduceLT, true_and, Bool.true_and, beq_self_eq_true, dec_t]))
    )
  · rw [if_pos (by omega)]
  · rw [if_neg (by omega)]
    refine vloopW (fun s : {i : Nat // i ≤ places.length ∧ ∀ j, ∀ hj : j < places.length, j < i → ¬ places[j].pg = y} => ⟨40, 0, [(6, .int .i64 s.1), (2, .ptr 0 0), (1, .int .i64 y)], [⟨29, true, [.int .i64 pages, .int .i64 spares, .pv (.sl (fz encP places)), .pv (.sl (fz encI bad))]⟩]⟩) (fun s => places.length - s.1) ⟨0, Nat.zero_le _, fun j _ h => by omega⟩ (.inl (by refine ⟨rfl, rfl, by simp, ?_, ?_, .inr ⟨?_, ?_⟩⟩ <;> (repeat' apply And.intro) <;> first | rfl | trivial | (intro _; first | rfl | apply cells_refs))) ?_
    rintro ⟨i, hi, hn⟩
    dsimp only
    have hg := fun h : i < places.length => fzP_at places i h
    (try simp (config := { maxSteps := 2000000 }) (implicitDefEqProofs := false) (disch := first | omega | assumption | (simp only []; done) | fail) only [vop_move, vcallee_move, vop_load, vcallee_load, vop_binOp, vcallee_binOp, vop_fieldAddr, vcallee_fieldAddr, vop_builtin, vcallee_builtin, bin2_tmp, strip_pv, strip_ptr, optV_none, ev_tmp, put_some, at_mk, fits_some, ↓look_cons, ↓vlook_t, ↓vlook_f, guard_none, ↓vrun_nil, ↓code_region, ↓code_seq, ↓onNormal_normal, load_ptr, vld_one, blk_zero, faddr_ptr, vfap_some, bin_int, int_lss, len_sl, vlk_sl, bi_len, evG_eq, ↓vrun_cons, ↓run1_some, ↓runG_true, ↓run2_none, ↓run3_some, ↓code_cond, ↓vtest_bool, at_hp, List.map_nil, List.getElem?_cons_zero, List.getElem?_cons_succ, List.map_cons, List.map_nil, Option.map_some, ↓reduceIte, reduceCtorEq, Nat.reduceLT, Nat.reduceBEq, Int.reduceLT, Int.reduceBEq, Nat.zero_add, true_and, Bool.true_and, beq_self_eq_true, fz_len, Try.vt26, Try.vkind26, Try.vfield29x2, dec_t])
    repeat' (first
      | (refine vrunG_split (fun hZ => ?_) (fun hZ => ?_) <;> (try rw [hZ]) <;> (try simp only [decide_eq_true_eq, decide_eq_false_iff_not, Bool.or_eq_true, Bool.and_eq_true, Bool.or_eq_false_iff, Bool.and_eq_false_imp, Bool.not_eq_true', Bool.not_eq_false', beq_iff_eq, beq_eq_false_iff_ne, bne_iff_ne, bne_eq_false_iff_eq, ne_eq, Bool.not_eq_eq_eq_not, Bool.not_true, Bool.not_false] at hZ) <;> (try (first | rw [(hZ : _ = false)] | rw [(hZ : _ = true)])) <;> skip)
      | (refine vbr_split (fun hZ => ?_) (fun hZ => ?_) <;> (try rw [hZ]) <;> (try simp only [decide_eq_true_eq, decide_eq_false_iff_not, Bool.or_eq_true, Bool.and_eq_true, Bool.or_eq_false_iff, Bool.and_eq_false_imp, Bool.not_eq_true', Bool.not_eq_false', beq_iff_eq, beq_eq_false_iff_ne, bne_iff_ne, bne_eq_false_iff_eq, ne_eq, Bool.not_eq_eq_eq_not, Bool.not_true, Bool.not_false] at hZ) <;> (try (first | rw [(hZ : _ = false)] | rw [(hZ : _ = true)])) <;> (try simp (config := { maxSteps := 2000000 }) (implicitDefEqProofs := false) (disch := first | omega | assumption | (simp only [List.length_cons, List.length_nil, Nat.zero_add, Nat.reduceAdd]; done) | fail) only [vop_move, vcallee_move, vop_assign, vcallee_assign, vop_load, vcallee_load, vop_binOp, vcallee_binOp, vop_fieldAddr, vcallee_fieldAddr, vop_indexAddr, vcallee_indexAddr, bin2_tmp, bin2_int, strip_pv, strip_ptr, strip_ip, optV_none, ev_tmp, ev_const, ofConst_int, put_some, at_mk, fits_some, ↓look_cons, ↓vlook_t, ↓vlook_f, guard_none, ↓vrun_nil, ↓code_skip, ↓code_region, ↓code_seq, ↓code_block, ↓code_exit, ↓code_ret, ↓onNormal_normal, ↓onNormal_ret, ↓onNormal_exit, ↓onBlock_normal, ↓onBlock_ret, ↓onBlock_exit, frz_tup, frzT_pv, allSome_nil, allSome_cons, frzHeap_zero, res_two, vres_tmp, load_ptr, load_ip, vld_one, vldp_one, blk_zero, faddr_ptr, vfap_some, faddr_ip, vfai_some, iaddr_sl, vias_some, bin_int, int_add, int_eql, evG_eq, ↓vrun_cons, ↓run1_some, ↓runG_true, ↓run2_none, ↓run3_some, ↓code_cond, ↓vtest_bool, ↓vpost_ret, vfin_some, vfin2_some, at_hp, List.map_nil, List.getElem?_cons_zero, List.getElem?_cons_succ, List.map_cons, List.map_nil, List.drop_succ_cons, List.drop_zero, Option.map_some, ↓reduceIte, reduceCtorEq, Nat.reduceLT, Nat.reduceBEq, Int.reduceLT, Int.reduceBEq, Int.toNat_natCast, Nat.zero_add, true_and, and_self, Bool.true_and, Bool.and_self, beq_self_eq_true, DV.wk.go, Try.vt3, Try.vt26, Try.velem26, Try.vfield29x2, Try.vfield73x0, Try.vfield73x1, wrap_i64_in, dec_t, Ret, DV.nums, DV.nums.go, hg]))
      | (refine vdrG_split (fun hZ => ?_) (fun hZ => ?_) <;> (try rw [hZ]) <;> (try simp only [decide_eq_true_eq, decide_eq_false_iff_not, Bool.or_eq_true, Bool.and_eq_true, Bool.or_eq_false_iff, Bool.and_eq_false_imp, Bool.not_eq_true', Bool.not_eq_false', beq_iff_eq, beq_eq_false_iff_ne, bne_iff_ne, bne_eq_false_iff_eq, ne_eq, Bool.not_eq_eq_eq_not, Bool.not_true, Bool.not_false] at hZ) <;> (try (first | rw [(hZ : _ = false)] | rw [(hZ : _ = true)])) <;> skip)
      )
    · rw [hw, Rm.whereS, find_at places _ i (by omega) (by simpa using hZ) (fun j hj h => by simpa using hn j hj h)]
    · refine ⟨⟨i + 1, by omega, fun j hj h => ?_⟩, by show places.length - (i + 1) < places.length - i; omega, (by refine gc_of (keep := [0]) rfl rfl rfl (by decide) ?_ ?_ <;> (repeat' apply And.intro) <;> first | trivial | rfl | exact ⟨_, rfl, rfl, rfl, .inl ⟨rfl, rfl⟩⟩ | exact ⟨_, rfl, rfl, rfl, .inl ⟨cells_nums _ _ _, rfl⟩⟩ | exact ⟨_, rfl, rfl, rfl, .inl ⟨pvs_nums _ _, rfl⟩⟩ | exact ⟨_, rfl, rfl, rfl, .inr ⟨rfl, rfl⟩⟩)⟩
      rcases Nat.lt_or_ge j i with h2 | h2
      · exact hn j hj h2
      · have h3 : j = i := by omega
        subst h3; exact hZ
    · rw [hw, Rm.whereS, find_no places _ (fun j hj => by simpa using hn j hj (by omega))]
  · rw [if_pos (by omega)]
theorem own_where (r : Rm) (h : r.Ok) (a n : Int) (e : r.ownerS a = some n) : r.whereS n = a := by
  unfold Rm.ownerS at e
  split at e
  · cases e
  · rename_i h1
    split at e
    · rename_i h2
      cases e
      have hb : ¬ a ∈ r.bad := fun hb => h1 (.inr hb)
      unfold Rm.whereS
      cases hf : r.places.find? fun p => p.pg == a with
      | none => rfl
      | some p =>
        have hm := List.mem_of_find?_eq_some hf
        have he := List.find?_some hf
        simp only [beq_iff_eq] at he
        exact absurd ((places_bad r h a h2).2 (he ▸ List.mem_map.2 ⟨p, hm, rfl⟩)) hb
    · cases hf : (r.places.find? fun p => p.ad == a) with
      | none => rw [hf] at e; cases e
      | some p =>
        rw [hf] at e
        have hm := List.mem_of_find?_eq_some hf
        have he := List.find?_some hf
        simp only [beq_iff_eq] at he
        simp only [Option.map_some, Option.some.injEq] at e
        subst e
        unfold Rm.whereS
        cases hg : r.places.find? fun q => q.pg == p.pg with
        | none => rw [List.find?_eq_none] at hg; exact absurd (show (p.pg == p.pg) = true by simp) (hg p hm)
        | some q =>
          have hq := List.find?_some hg
          simp only [beq_iff_eq] at hq
          have := pg_inj r h q p (List.mem_of_find?_eq_some hg) hm hq
          subst this
          exact he
theorem rowner_v (r : Rm) (hs : r.sm) (a : Int) : VCalls Try.prog 22 [.agg r.d, .int .i64 a] [] (Ret (ownD (if r.okB = true then r.ownerS a else none))) := by
  refine vcalls_drop (fn := Try.f22) Try.func22 rfl (by kernel_rfl) (by simp [Try.f22]) ?_
  have hv := rvalid_v r hs
  have hw : ∀ y, r.okB = true → 0 ≤ y → y < r.pages → VCalls Try.prog 20 [.agg r.d, .int .i64 y] [] (Ret (.tup [.int .i64 (r.whereS y), .int .i64 0])) := fun y h1 h2 h3 => by
    have := rwhere_v r hs y
    rwa [if_pos h1, if_neg (by omega)] at this
  have hwo : ∀ y, r.okB = true → 0 ≤ y → y < r.pages → r.whereS y = a → r.ownerS a = some y := fun y h1 h2 h3 h4 => h4 ▸ (where_ok r ((ok_iff r).1 h1) y h2 h3).2.2.2
  have how : r.okB = true → ∀ n, r.ownerS a = some n → r.whereS n = a := fun h1 n e => own_where r ((ok_iff r).1 h1) a n e
  have hrg : r.okB = true → ∀ n, r.ownerS a = some n → 0 ≤ n ∧ n < r.pages := fun h1 n e => owner_rng r ((ok_iff r).1 h1) a n e
  have hpl : r.okB = true → r.pages ≤ 64 := fun h1 => ((ok_iff r).1 h1).p2
  generalize r.okB = B at *
  generalize r.ownerS a = o at *
  generalize r.whereS = W at *
  obtain ⟨pages, spares, places, bad⟩ := r
  dsimp only [Rm.d] at *
  simp (config := { maxSteps := 2000000 }) (implicitDefEqProofs := false) (disch := first | omega | assumption | (simp only []; done) | fail) only [vop_assign, vcallee_assign, vop_box, vcallee_box, strip_pv, strip_agg, optV_none, ev_tmp, ev_const, ofConst_int, ofConst_bool, put_some, at_mk, fits_some, ↓look_cons, ↓vlook_t, guard_none, ↓vrun_nil, ↓code_region, ↓code_seq, ↓code_block, ↓code_loop, ↓onNormal_normal, box_eq, allOne_nil, allOne_cons, one_pv, enum_nil, enum_cons, evG_eq, ↓vrun_cons, ↓run1_some, ↓runG_true, ↓run2_none, ↓run3_some, at_hp, dcells, List.toList_toArray, List.length_nil, List.nil_append, ↓reduceIte, Nat.reduceAdd, Nat.reduceLT, Int.reduceLT, Int.reduceAdd, Nat.zero_add, true_and, and_self, Bool.true_and, Bool.and_self, beq_self_eq_true, dec_t, Try.f22]
  refine vloopW (fun s : {i : Nat // (i : Int) ≤ 64 ∧ ∀ j : Nat, j < i → (j : Int) < pages ∧ ¬ W j = a} => ⟨29, 0, [(6, .int .i64 s.1), (2, .ptr 0 0), (1, .int .i64 a)], [⟨29, true, [.int .i64 pages, .int .i64 spares, .pv (.sl (fz encP places)), .pv (.sl (fz encI bad))]⟩]⟩) (fun s => 64 - s.1) ⟨0, by omega, fun j h => by omega⟩ (.inl (by refine ⟨rfl, rfl, by simp, ?_, ?_, .inr ⟨?_, ?_⟩⟩ <;> (repeat' apply And.intro) <;> first | rfl | trivial | (intro _; first | rfl | apply cells_refs))) ?_
  rintro ⟨i, hi, hn⟩
  dsimp only
  (try simp (config := { maxSteps := 2000000 }) (implicitDefEqProofs := false) (disch := first | omega | assumption | (simp only []; done) | fail) only [vop_move, vcallee_move, vop_load, vcallee_load, vop_binOp, vcallee_binOp, vop_fieldAddr, vcallee_fieldAddr, bin2_tmp, strip_pv, strip_ptr, optV_none, ev_tmp, put_some, at_mk, fits_some, ↓look_cons, ↓vlook_t, ↓vlook_f, guard_none, guard_some, vgof_bool, ↓code_region, ↓code_seq, load_ptr, vld_one, blk_zero, faddr_ptr, vfap_some, bin_int, int_lss, evG_eq, ↓vrun_cons, ↓run1_some, ↓runG_true, ↓run2_none, ↓run3_some, at_hp, List.getElem?_cons_zero, List.getElem?_cons_succ, Option.map_some, Option.bind_some, ↓reduceIte, reduceCtorEq, Nat.reduceLT, Nat.reduceBEq, Int.reduceLT, Int.reduceBEq, Nat.add_zero, true_and, Bool.true_and, b_beq_t, beq_self_eq_true, Try.vt3, Try.vfield29x0, dec_t])
  repeat' (first
    | (refine vrunG_split (fun hZ => ?_) (fun hZ => ?_) <;> (try rw [hZ]) <;> (try simp only [decide_eq_true_eq, decide_eq_false_iff_not, Bool.or_eq_true, Bool.and_eq_true, Bool.or_eq_false_iff, Bool.and_eq_false_imp, Bool.not_eq_true', Bool.not_eq_false', beq_iff_eq, beq_eq_false_iff_ne, bne_iff_ne, bne_eq_false_iff_eq, ne_eq, Bool.not_eq_eq_eq_not, Bool.not_true, Bool.not_false] at hZ) <;> (try (first | rw [(hZ : _ = false)] | rw [(hZ : _ = true)])) <;> (try simp (config := { maxSteps := 2000000 }) (implicitDefEqProofs := false) (disch := first | omega | assumption | (simp only []; done) | fail) only [vop_assign, vcallee_assign, vop_pick, vcallee_pick, vop_load, vcallee_load, vcallee_value, vcal_fn, vpick_bool, strip_pv, strip_ptr, strip_tup, strip_fn, strip_opt, vstr_true, optV_none, optV_some, ev_tmp, ev_const, ev_func, ofConst_int, ofConst_bool, put_some, at_mk, fits_some, ↓look_cons, ↓vlook_t, ↓vlook_f, guard_none, guard_some, vgof_bool, ↓vrun_nil, ↓code_region, ↓code_seq, ↓code_exit, ↓code_ret, ↓onNormal_normal, ↓onNormal_exit, ↓onBlock_exit, frz_tup, frzT_pv, allSome_nil, allSome_cons, frzHeap_zero, res_two, vres_tmp, load_ptr, vld_agg, blk_zero, evG_eq, ↓vrun_cons, ↓run1_some, ↓runG_true, ↓runG_false, ↓run2_none, ↓run2_some, ↓run3_some, ↓code_cond, ↓vtest_bool, ↓vbr_false, ↓vpost_ret, vfin_some, vfin2_some, at_hp, pickV_f, List.map_nil, List.getElem?_cons_zero, List.getElem?_cons_succ, List.length_cons, List.length_nil, List.map_cons, List.map_nil, List.nil_append, List.append_nil, List.take_succ_cons, List.take_nil, List.drop_zero, Option.map_some, Option.bind_some, ↓reduceIte, Nat.reduceAdd, Nat.reduceLT, Nat.reduceBEq, Int.reduceLT, Int.reduceAdd, Int.reduceBEq, Nat.zero_add, true_and, and_self, or_true, Bool.not_true, Bool.not_false, Bool.or_true, Bool.true_and, Bool.and_self, b_beq_t, beq_self_eq_true, Nat.le_refl, DV.wk.go, Try.vt29, dec_t, Ret, DV.nums, DV.nums.go]))
    | (refine vbr_split (fun hZ => ?_) (fun hZ => ?_) <;> (try rw [hZ]) <;> (try simp only [decide_eq_true_eq, decide_eq_false_iff_not, Bool.or_eq_true, Bool.and_eq_true, Bool.or_eq_false_iff, Bool.and_eq_false_imp, Bool.not_eq_true', Bool.not_eq_false', beq_iff_eq, beq_eq_false_iff_ne, bne_iff_ne, bne_eq_false_iff_eq, ne_eq, Bool.not_eq_eq_eq_not, Bool.not_true, Bool.not_false] at hZ) <;> (try (first | rw [(hZ : _ = false)] | rw [(hZ : _ = true)])) <;> (try simp (config := { maxSteps := 2000000 }) (implicitDefEqProofs := false) (disch := first | omega | assumption | (simp only []; done) | fail) only [vop_move, vcallee_move, vop_assign, vcallee_assign, vop_load, vcallee_load, vop_binOp, vcallee_binOp, vcallee_value, vcal_fn, bin2_int, strip_pv, strip_ptr, strip_agg, strip_fn, optV_none, ev_tmp, ev_const, ev_func, ofConst_int, ofConst_bool, put_some, at_mk, fits_some, ↓look_cons, ↓vlook_t, ↓vlook_f, guard_none, ↓vrun_nil, ↓code_skip, ↓code_region, ↓code_seq, ↓code_block, ↓code_exit, ↓code_ret, ↓onNormal_normal, ↓onNormal_ret, ↓onNormal_exit, ↓onBlock_normal, ↓onBlock_ret, ↓onBlock_exit, frz_tup, frzT_pv, allSome_nil, allSome_cons, frzHeap_zero, res_two, vres_tmp, load_ptr, vld_agg, blk_zero, bin_int, int_add, evG_eq, ↓vrun_cons, ↓run1_some, ↓runG_true, ↓run2_none, ↓run2_some, ↓run3_some, ↓vpost_ret, vfin_some, vfin2_some, at_hp, List.map_nil, List.length_cons, List.length_nil, List.map_cons, List.map_nil, List.nil_append, List.append_nil, List.take_succ_cons, List.take_nil, List.drop_zero, Option.map_some, ↓reduceIte, Bool.false_eq_true, Nat.reduceAdd, Nat.reduceLT, Nat.reduceBEq, Int.reduceLT, Int.reduceAdd, Int.reduceBEq, Nat.zero_add, true_and, and_self, Bool.true_and, Bool.and_self, beq_self_eq_true, Nat.le_refl, DV.wk.go, Try.vt29, wrap_i64_in, dec_t, Ret, DV.nums, DV.nums.go]))
    | (refine vdrG_split (fun hZ => ?_) (fun hZ => ?_) <;> (try rw [hZ]) <;> (try simp only [decide_eq_true_eq, decide_eq_false_iff_not, Bool.or_eq_true, Bool.and_eq_true, Bool.or_eq_false_iff, Bool.and_eq_false_imp, Bool.not_eq_true', Bool.not_eq_false', beq_iff_eq, beq_eq_false_iff_ne, bne_iff_ne, bne_eq_false_iff_eq, ne_eq, Bool.not_eq_eq_eq_not, Bool.not_true, Bool.not_false] at hZ) <;> (try (first | rw [(hZ : _ = false)] | rw [(hZ : _ = true)])) <;> skip)
    | (refine vc_pure (hv) rfl ?_; (try simp (config := { maxSteps := 2000000 }) (implicitDefEqProofs := false) (disch := first | omega | assumption | (simp only []; done) | fail) only [vop_pick, vcallee_pick, vpick_bool, strip_pv, strip_opt, vstr_true, optV_none, optV_some, pickV_bool, ev_tmp, ev_const, ofConst_bool, put_some, at_mk, fits_some, ↓look_cons, ↓vlook_t, ↓vlook_f, guard_none, ↓vrun_nil, ↓onNormal_normal, evG_eq, ↓vrun_cons, ↓run1_some, ↓runG_true, ↓run2_none, ↓run3_some, ↓runK_eq, ↓code_cond, ↓vtest_bool, at_hp, Nat.reduceLT, Nat.reduceBEq, Int.reduceLT, Int.reduceBEq, true_and, or_true, Bool.not_true, Bool.or_true, Bool.true_and, cond_true, beq_self_eq_true, dec_t]))
    | (refine vc_pure (hw i (by assumption) (by omega) (by omega)) rfl ?_; (try simp (config := { maxSteps := 2000000 }) (implicitDefEqProofs := false) (disch := first | omega | assumption | (simp only []; done) | fail) only [vop_move, vcallee_move, vop_assign, vcallee_assign, vop_binOp, vcallee_binOp, vop_extract, vcallee_extract, bin2_tmp, strip_pv, strip_tup, optV_none, ev_tmp, put_some, at_mk, fits_some, ↓look_cons, ↓vlook_t, ↓vlook_f, guard_none, ↓vrun_nil, ↓code_region, ↓code_seq, ↓onNormal_normal, bin_int, int_eql, ext_tup, evG_eq, ↓vrun_cons, ↓run1_some, ↓runG_true, ↓run2_none, ↓run3_some, ↓runK_eq, ↓code_cond, ↓vtest_bool, at_hp, List.getElem?_cons_zero, List.getElem?_cons_succ, Option.map_some, Nat.reduceLT, Nat.reduceBEq, Int.reduceLT, Int.reduceBEq, true_and, Bool.true_and, beq_self_eq_true, dec_t]))
    )
  · have := hwo i (by assumption) (by omega) (by omega) hZ
    subst this; rfl
  · refine ⟨⟨i + 1, by have := hpl (by assumption); omega, fun j hj => ?_⟩, by have := hpl (by assumption); show 64 - (i + 1) < 64 - i; omega, (by refine gc_of (keep := [0]) rfl rfl rfl (by decide) ?_ ?_ <;> (repeat' apply And.intro) <;> first | trivial | rfl | exact ⟨_, rfl, rfl, rfl, .inl ⟨rfl, rfl⟩⟩ | exact ⟨_, rfl, rfl, rfl, .inl ⟨cells_nums _ _ _, rfl⟩⟩ | exact ⟨_, rfl, rfl, rfl, .inl ⟨pvs_nums _ _, rfl⟩⟩ | exact ⟨_, rfl, rfl, rfl, .inr ⟨rfl, rfl⟩⟩)⟩
    rcases Nat.lt_or_ge j i with h2 | h2
    · exact hn j h2
    · have h3 : j = i := by omega
      subst h3; exact ⟨by omega, hZ⟩
  · rfl
  · split
    · rename_i hB
      cases o with
      | none => rfl
      | some n =>
        have h1 := how hB n rfl
        have h2 := hrg hB n rfl
        obtain ⟨m, rfl⟩ : ∃ m : Nat, n = m := ⟨n.toNat, by omega⟩
        exact absurd h1 (hn m (by omega)).2
    · rfl
theorem own_spare (r : Rm) (h : r.Ok) (a : Int) (ha : r.pages ≤ a) : ∃ (x : Int) (c : Bool), ownD (r.ownerS a) = .tup [.int .i64 x, .bool c] ∧ ((c = true ∨ a ∈ r.bad) ↔ (a ∈ r.places.map (·.ad) ∨ a ∈ r.bad)) := by
  have hp1 := h.p1
  cases ho : r.ownerS a with
  | none =>
    refine ⟨0, false, rfl, ?_⟩
    unfold Rm.ownerS at ho
    split at ho
    · rename_i h1
      have hb : a ∈ r.bad := h1.resolve_left (by omega)
      simp [hb]
    · rename_i h1
      rw [if_neg (by omega), Option.map_eq_none_iff, List.find?_eq_none] at ho
      have hn : ¬ a ∈ r.places.map (·.ad) := fun hm => by
        obtain ⟨p, hp, e⟩ := List.mem_map.1 hm
        exact ho p hp (by simp [e])
      simp [hn]
  | some n =>
    refine ⟨n, true, rfl, ?_⟩
    unfold Rm.ownerS at ho
    split at ho
    · cases ho
    · rw [if_neg (by omega)] at ho
      cases hf : (r.places.find? fun p => p.ad == a) with
      | none => rw [hf] at ho; cases ho
      | some p =>
        have he := List.find?_some hf
        simp only [beq_iff_eq] at he
        have hm : a ∈ r.places.map (·.ad) := List.mem_map.2 ⟨p, List.mem_of_find?_eq_some hf, he⟩
        simp [hm]
set_option maxHeartbeats 1000000 in
theorem rfree_v (r : Rm) (h : r.Ok) (hs : r.sm) : VCalls Try.prog 41 [.agg r.d] [] (Ret (.pv (.sl (fz encI r.freeS)))) := by
  refine vcalls_drop (fn := Try.f41) Try.func41 rfl (by kernel_rfl) (by simp [Try.f41]) ?_
  have hbc := fun y => rhas_v r.bad hs.2 y
  have hwc : ∀ a, VCalls Try.prog 22 [.agg r.d, .int .i64 a] [] (Ret (ownD (r.ownerS a))) := fun a => by
    have := rowner_v r hs a
    rwa [if_pos ((ok_iff r).2 h)] at this
  have hos := own_spare r h
  have hsu := freeN_succ r
  have hfl := freeN_len r
  have p1 := h.p1
  have p2 := h.p2
  have q1 := h.s1
  have q2 := h.s2
  have q3 := h.s3
  obtain ⟨n, hn⟩ : ∃ n : Nat, r.spares = n := ⟨r.spares.toNat, by omega⟩
  have hfs : r.freeS = r.freeN n := by rw [Rm.freeS, hn]; rfl
  have hf0 : r.freeN 0 = [] := rfl
  rw [hfs]
  generalize r.ownerS = W at *
  generalize r.freeN = F at *
  obtain ⟨pages, spares, places, bad⟩ := r
  dsimp only [Rm.d] at *
  subst hn
  simp (config := { maxSteps := 2000000 }) (implicitDefEqProofs := false) (disch := first | omega | assumption | (simp only []; done) | fail) only [vop_assign, vcallee_assign, vop_box, vcallee_box, vop_load, vcallee_load, vop_fieldAddr, vcallee_fieldAddr, strip_pv, strip_ptr, strip_agg, optV_none, ev_tmp, ev_const, ofConst_slice, put_some, at_mk, fits_some, ↓look_cons, ↓vlook_t, ↓vlook_f, guard_none, ↓vrun_nil, ↓code_region, ↓code_seq, ↓code_block, ↓code_loop, ↓onNormal_normal, load_ptr, vld_one, blk_zero, box_eq, allOne_nil, allOne_cons, one_pv, faddr_ptr, vfap_some, enum_nil, enum_cons, evG_eq, ↓vrun_cons, ↓run1_some, ↓runG_true, ↓run2_none, ↓run3_some, at_hp, dcells, List.toList_toArray, List.getElem?_cons_zero, List.length_nil, List.nil_append, Option.map_some, ↓reduceIte, reduceCtorEq, Nat.reduceLT, Nat.reduceBEq, Int.reduceLT, Int.reduceBEq, Nat.zero_add, Nat.add_zero, true_and, and_self, Bool.true_and, Bool.and_self, beq_self_eq_true, Try.vt3, Try.vfield29x0, dec_t, Try.f41]
  refine VLoop.nilOwn 3 3 1 rfl ?_
  refine vloopW (fun s : {k : Nat // k ≤ n} => ⟨38, 0, [(4, .int .i64 (pages + (s.1 : Int))), (3, .own 1 1 0 (F s.1).length), (1, .ptr 0 0)], [⟨29, true, [.int .i64 pages, .int .i64 (n : Int), .pv (.sl (fz encP places)), .pv (.sl (fz encI bad))]⟩, ⟨3, true, cells encI (F s.1)⟩]⟩) (fun s => n - s.1) ⟨0, Nat.zero_le _⟩ (.inl ?_) ?_
  · dsimp only
    rw [hf0, show pages + ((0 : Nat) : Int) = pages by omega]
    exact (by refine ⟨rfl, rfl, by simp, ?_, ?_, .inr ⟨?_, ?_⟩⟩ <;> (repeat' apply And.intro) <;> first | rfl | trivial | (intro _; first | rfl | apply cells_refs))
  rintro ⟨k, hk⟩
  dsimp only
  obtain ⟨x, c, e, hc⟩ := hos (pages + (k : Int)) (by omega)
  have hw := hwc (pages + (k : Int))
  rw [e] at hw
  have hb := hbc (pages + (k : Int))
  have hsk := hsu k
  have hfk := hfl k
  have hk1 : (c = true ∨ pages + (k : Int) ∈ bad) → F (k + 1) = F k := fun g => by rw [hsk, if_pos (hc.1 g), List.append_nil]
  have hk2 : ¬ (c = true ∨ pages + (k : Int) ∈ bad) → F (k + 1) = F k ++ [pages + (k : Int)] := fun g => by rw [hsk, if_neg (fun e => g (hc.2 e))]
  clear hsk hsu hos hwc hbc
  (try simp (config := { maxSteps := 2000000 }) (implicitDefEqProofs := false) (disch := first | omega | assumption | (simp only []; done) | fail) only [vop_move, vcallee_move, vop_load, vcallee_load, vop_binOp, vcallee_binOp, vop_fieldAddr, vcallee_fieldAddr, bin2_tmp, strip_pv, strip_ptr, optV_none, ev_tmp, put_some, at_mk, fits_some, ↓look_cons, ↓vlook_t, ↓vlook_f, guard_none, ↓vrun_nil, ↓code_region, ↓code_seq, ↓onNormal_normal, load_ptr, vld_one, blk_zero, faddr_ptr, vfap_some, bin_int, int_add, int_lss, evG_eq, ↓vrun_cons, ↓run1_some, ↓runG_true, ↓run2_none, ↓run3_some, ↓code_cond, ↓vtest_bool, at_hp, List.getElem?_cons_zero, List.getElem?_cons_succ, Option.map_some, ↓reduceIte, reduceCtorEq, Nat.reduceLT, Nat.reduceBEq, Int.reduceLT, Int.reduceBEq, Nat.zero_add, Nat.add_zero, true_and, Bool.true_and, beq_self_eq_true, Try.vt3, Try.vfield29x0, Try.vfield29x1, wrap_i64_in, dec_t])
  repeat' (first
    | (refine vrunG_split (fun hZ => ?_) (fun hZ => ?_) <;> (try rw [hZ]) <;> (try simp only [decide_eq_true_eq, decide_eq_false_iff_not, Bool.or_eq_true, Bool.and_eq_true, Bool.or_eq_false_iff, Bool.and_eq_false_imp, Bool.not_eq_true', Bool.not_eq_false', beq_iff_eq, beq_eq_false_iff_ne, bne_iff_ne, bne_eq_false_iff_eq, ne_eq, Bool.not_eq_eq_eq_not, Bool.not_true, Bool.not_false] at hZ) <;> (try (first | rw [(hZ : _ = false)] | rw [(hZ : _ = true)])) <;> (try simp (config := { maxSteps := 2000000 }) (implicitDefEqProofs := false) (disch := first | omega | assumption | (simp only []; done) | fail) only [vop_move, vcallee_move, vop_assign, vcallee_assign, vop_pick, vcallee_pick, vop_load, vcallee_load, vop_binOp, vcallee_binOp, vop_fieldAddr, vcallee_fieldAddr, vcallee_value, vcal_fn, bin2_int, vpick_bool, strip_pv, strip_ptr, strip_tup, strip_fn, strip_opt, vstr_true, optV_none, optV_some, ev_tmp, ev_const, ev_func, ofConst_int, ofConst_bool, put_some, at_mk, fits_some, ↓look_cons, ↓vlook_t, ↓vlook_f, guard_none, guard_some, vgof_bool, ↓vrun_nil, ↓code_skip, ↓code_region, ↓onNormal_normal, ↓onBlock_normal, load_ptr, vld_one, blk_zero, faddr_ptr, vfap_some, bin_int, int_add, evG_eq, ↓vrun_cons, ↓run1_some, ↓runG_true, ↓runG_false, ↓run2_none, ↓run2_some, ↓run3_some, ↓code_cond, ↓vtest_bool, ↓vbr_false, at_hp, pickV_f, List.map_nil, List.getElem?_cons_zero, List.getElem?_cons_succ, List.map_cons, List.map_nil, List.nil_append, List.append_nil, Option.map_some, Option.bind_some, ↓reduceIte, reduceCtorEq, Nat.reduceLT, Nat.reduceBEq, Int.reduceLT, Int.reduceBEq, Nat.zero_add, true_and, or_true, Bool.not_true, Bool.not_false, Bool.or_true, Bool.true_and, b_beq_t, beq_self_eq_true, Try.vt27, Try.vfield29x3, wrap_i64_in, dec_t]))
    | (refine vbr_split (fun hZ => ?_) (fun hZ => ?_) <;> (try rw [hZ]) <;> (try simp only [decide_eq_true_eq, decide_eq_false_iff_not, Bool.or_eq_true, Bool.and_eq_true, Bool.or_eq_false_iff, Bool.and_eq_false_imp, Bool.not_eq_true', Bool.not_eq_false', beq_iff_eq, beq_eq_false_iff_ne, bne_iff_ne, bne_eq_false_iff_eq, ne_eq, Bool.not_eq_eq_eq_not, Bool.not_true, Bool.not_false] at hZ) <;> (try (first | rw [(hZ : _ = false)] | rw [(hZ : _ = true)])) <;> (try simp (config := { maxSteps := 2000000 }) (implicitDefEqProofs := false) (disch := first | omega | assumption | (simp only []; done) | fail) only [vop_move, vcallee_move, vop_assign, vcallee_assign, vop_buildSlice, vcallee_buildSlice, vop_load, vcallee_load, vop_binOp, vcallee_binOp, vop_builtin, vcallee_builtin, vcallee_value, vcal_fn, bin2_int, strip_pv, strip_ptr, strip_own, strip_agg, strip_fn, optV_none, ev_tmp, ev_const, ev_func, ofConst_int, put_some, at_mk, fits_some, ↓look_cons, ↓vlook_t, ↓vlook_f, guard_none, ↓vrun_nil, ↓code_skip, ↓code_region, ↓code_seq, ↓code_block, ↓code_exit, ↓code_ret, ↓onNormal_normal, ↓onNormal_exit, ↓onBlock_normal, ↓onBlock_exit, frz_own, frz1_own, frzHeap_zero, res_one, vres_tmp, load_ptr, vld_agg, blk_zero, blk_succ, allOne_nil, allOne_cons, one_pv, bin_int, int_add, bi_append, ap2_own, parts_nil, parts_cons, evG_eq, ↓vrun_cons, ↓run1_some, ↓runG_true, ↓run2_none, ↓run2_some, ↓run3_some, ↓vpost_ret, vfin_some, vfin2_some, at_hp, List.map_nil, dcells, vfill, vbuildSlice, V.mk, vsrc, vbase, vappend, V.kill, V.splice, List.getElem?_cons_zero, List.getElem?_cons_succ, List.length_cons, List.length_nil, List.map_cons, List.map_nil, List.cons_append, List.nil_append, List.append_nil, List.take_succ_cons, List.take_zero, List.take_nil, List.drop_succ_cons, List.drop_zero, List.drop_nil, List.set_cons_zero, List.set_cons_succ, Option.map_some, ↓reduceIte, Nat.reduceAdd, Nat.reduceLT, Nat.reduceLeDiff, Nat.reduceBEq, Int.reduceLT, Int.reduceAdd, Int.reduceBEq, Nat.zero_add, Nat.mul_one, true_and, and_self, Bool.true_and, Bool.and_self, beq_self_eq_true, Nat.le_refl, frzP_own, frzC_I, cellsI_len, Try.vzero3, Try.bytes3, Try.velem27, Try.notInt27, Try.vt29, wrap_i64_in, dec_t, dec_f, Ret, DV.nums, allN, mem_ok, app1N]))
    | (refine vdrG_split (fun hZ => ?_) (fun hZ => ?_) <;> (try rw [hZ]) <;> (try simp only [decide_eq_true_eq, decide_eq_false_iff_not, Bool.or_eq_true, Bool.and_eq_true, Bool.or_eq_false_iff, Bool.and_eq_false_imp, Bool.not_eq_true', Bool.not_eq_false', beq_iff_eq, beq_eq_false_iff_ne, bne_iff_ne, bne_eq_false_iff_eq, ne_eq, Bool.not_eq_eq_eq_not, Bool.not_true, Bool.not_false] at hZ) <;> (try (first | rw [(hZ : _ = false)] | rw [(hZ : _ = true)])) <;> skip)
    | (refine vc_pure (hw) rfl ?_; (try simp (config := { maxSteps := 2000000 }) (implicitDefEqProofs := false) (disch := first | omega | assumption | (simp only []; done) | fail) only [vop_move, vcallee_move, vop_assign, vcallee_assign, vop_unOp, vcallee_unOp, vop_extract, vcallee_extract, strip_pv, strip_tup, optV_none, ev_tmp, put_some, at_mk, fits_some, ↓look_cons, ↓vlook_t, ↓vlook_f, guard_none, guard_some, vgof_bool, ↓vrun_nil, ↓code_region, ↓code_seq, ↓onNormal_normal, un_not, ext_tup, evG_eq, ↓vrun_cons, ↓run1_some, ↓runG_true, ↓run2_none, ↓run3_some, ↓runK_eq, at_hp, List.getElem?_cons_zero, List.getElem?_cons_succ, Option.map_some, Option.bind_some, Nat.reduceLT, Nat.reduceBEq, Int.reduceLT, Int.reduceBEq, true_and, Bool.true_and, b_beq_t, beq_self_eq_true, dec_t]))
    | (refine vc_pure (hb) rfl ?_; (try simp (config := { maxSteps := 2000000 }) (implicitDefEqProofs := false) (disch := first | omega | assumption | (simp only []; done) | fail) only [vop_pick, vcallee_pick, vop_unOp, vcallee_unOp, vpick_bool, strip_pv, strip_opt, vstr_true, optV_none, optV_some, pickV_bool, ev_tmp, ev_const, ofConst_bool, put_some, at_mk, fits_some, ↓look_cons, ↓vlook_t, ↓vlook_f, guard_none, guard_some, vgof_bool, ↓vrun_nil, ↓onNormal_normal, un_not, evG_eq, ↓vrun_cons, ↓run1_some, ↓runG_true, ↓run2_none, ↓run3_some, ↓runK_eq, ↓code_cond, ↓vtest_bool, at_hp, List.getElem?_cons_zero, List.getElem?_cons_succ, Option.map_some, Option.bind_some, Nat.reduceLT, Nat.reduceBEq, Int.reduceLT, Int.reduceBEq, true_and, or_true, Bool.not_true, Bool.or_true, Bool.true_and, cond_true, beq_self_eq_true, dec_t]))
    )
  · refine ⟨⟨k + 1, by omega⟩, by show n - (k + 1) < n - k; omega, ?_⟩
    dsimp only
    rw [hk2 (by rintro (h | h) <;> simp_all), show pages + ((k + 1 : Nat) : Int) = pages + (k : Int) + 1 by omega, List.length_append]
    exact (by refine gc_of (keep := [0, 3]) rfl rfl rfl (by decide) ?_ ?_ <;> (repeat' apply And.intro) <;> first | trivial | rfl | exact ⟨_, rfl, rfl, rfl, .inl ⟨rfl, rfl⟩⟩ | exact ⟨_, rfl, rfl, rfl, .inl ⟨cells_nums _ _ _, rfl⟩⟩ | exact ⟨_, rfl, rfl, rfl, .inl ⟨pvs_nums _ _, rfl⟩⟩ | exact ⟨_, rfl, rfl, rfl, .inr ⟨rfl, rfl⟩⟩)
  · refine ⟨⟨k + 1, by omega⟩, by show n - (k + 1) < n - k; omega, ?_⟩
    dsimp only
    rw [hk1 (.inr (by assumption)), show pages + ((k + 1 : Nat) : Int) = pages + (k : Int) + 1 by omega]
    exact (by refine gc_of (keep := [0, 1]) rfl rfl rfl (by decide) ?_ ?_ <;> (repeat' apply And.intro) <;> first | trivial | rfl | exact ⟨_, rfl, rfl, rfl, .inl ⟨rfl, rfl⟩⟩ | exact ⟨_, rfl, rfl, rfl, .inl ⟨cells_nums _ _ _, rfl⟩⟩ | exact ⟨_, rfl, rfl, rfl, .inl ⟨pvs_nums _ _, rfl⟩⟩ | exact ⟨_, rfl, rfl, rfl, .inr ⟨rfl, rfl⟩⟩)
  · refine ⟨⟨k + 1, by omega⟩, by show n - (k + 1) < n - k; omega, ?_⟩
    dsimp only
    rw [hk1 (.inl (by assumption)), show pages + ((k + 1 : Nat) : Int) = pages + (k : Int) + 1 by omega]
    exact (by refine gc_of (keep := [0, 1]) rfl rfl rfl (by decide) ?_ ?_ <;> (repeat' apply And.intro) <;> first | trivial | rfl | exact ⟨_, rfl, rfl, rfl, .inl ⟨rfl, rfl⟩⟩ | exact ⟨_, rfl, rfl, rfl, .inl ⟨cells_nums _ _ _, rfl⟩⟩ | exact ⟨_, rfl, rfl, rfl, .inl ⟨pvs_nums _ _, rfl⟩⟩ | exact ⟨_, rfl, rfl, rfl, .inr ⟨rfl, rfl⟩⟩)
  · rw [show k = n by omega]
theorem rleft_v (r : Rm) (hs : r.sm) : VCalls Try.prog 18 [.agg r.d] [] (Ret (.int .i64 (if r.okB = true then r.freeS.length else 0 : Nat))) := by
  refine vcalls_drop (fn := Try.f18) Try.func18 rfl (by kernel_rfl) (by simp [Try.f18]) ?_
  have hv := rvalid_v r hs
  have hf := fun h => rfree_v r ((ok_iff r).1 h) hs
  generalize r.okB = B at *
  generalize r.freeS = F at *
  obtain ⟨pages, spares, places, bad⟩ := r
  dsimp only [Rm.d] at *
  simp (config := { maxSteps := 2000000 }) (implicitDefEqProofs := false) (disch := first | omega | assumption | (simp only []; done) | fail) only [vop_assign, vcallee_assign, vop_box, vcallee_box, vop_load, vcallee_load, vcallee_value, vcal_fn, strip_pv, strip_ptr, strip_agg, strip_fn, optV_none, ev_tmp, ev_const, ev_func, ofConst_int, put_some, at_mk, fits_some, ↓look_cons, ↓vlook_t, ↓vlook_f, guard_none, ↓vrun_nil, ↓code_region, ↓code_seq, ↓onNormal_normal, load_ptr, vld_agg, blk_zero, box_eq, allOne_nil, allOne_cons, one_pv, enum_nil, enum_cons, evG_eq, ↓vrun_cons, ↓run1_some, ↓runG_true, ↓run2_none, ↓run2_some, ↓run3_some, at_hp, List.map_nil, dcells, List.toList_toArray, List.length_cons, List.length_nil, List.map_cons, List.map_nil, List.nil_append, List.append_nil, List.take_succ_cons, List.take_nil, List.drop_zero, Option.map_some, ↓reduceIte, Nat.reduceAdd, Nat.reduceLT, Nat.reduceBEq, Int.reduceLT, Int.reduceAdd, Int.reduceBEq, Nat.zero_add, true_and, and_self, Bool.true_and, Bool.and_self, beq_self_eq_true, Nat.le_refl, Try.vt29, dec_t, Try.f18]
  skip
  repeat' (first
    | (refine vrunG_split (fun hZ => ?_) (fun hZ => ?_) <;> (try rw [hZ]) <;> (try simp only [decide_eq_true_eq, decide_eq_false_iff_not, Bool.or_eq_true, Bool.and_eq_true, Bool.or_eq_false_iff, Bool.and_eq_false_imp, Bool.not_eq_true', Bool.not_eq_false', beq_iff_eq, beq_eq_false_iff_ne, bne_iff_ne, bne_eq_false_iff_eq, ne_eq, Bool.not_eq_eq_eq_not, Bool.not_true, Bool.not_false] at hZ) <;> (try (first | rw [(hZ : _ = false)] | rw [(hZ : _ = true)])) <;> skip)
    | (refine vbr_split (fun hZ => ?_) (fun hZ => ?_) <;> (try rw [hZ]) <;> (try simp only [decide_eq_true_eq, decide_eq_false_iff_not, Bool.or_eq_true, Bool.and_eq_true, Bool.or_eq_false_iff, Bool.and_eq_false_imp, Bool.not_eq_true', Bool.not_eq_false', beq_iff_eq, beq_eq_false_iff_ne, bne_iff_ne, bne_eq_false_iff_eq, ne_eq, Bool.not_eq_eq_eq_not, Bool.not_true, Bool.not_false] at hZ) <;> (try (first | rw [(hZ : _ = false)] | rw [(hZ : _ = true)])) <;> (try simp (config := { maxSteps := 2000000 }) (implicitDefEqProofs := false) (disch := first | omega | assumption | (simp only []; done) | fail) only [vop_assign, vcallee_assign, vop_load, vcallee_load, vcallee_value, vcal_fn, strip_pv, strip_ptr, strip_agg, strip_fn, optV_none, ev_tmp, ev_const, ev_func, ofConst_int, put_some, at_mk, fits_some, ↓look_cons, ↓vlook_t, ↓vlook_f, guard_none, ↓vrun_nil, ↓code_skip, ↓code_region, ↓code_seq, ↓code_ret, ↓onNormal_normal, ↓onNormal_ret, frz_pv, frzHeap_zero, res_one, vres_tmp, load_ptr, vld_agg, blk_zero, evG_eq, ↓vrun_cons, ↓run1_some, ↓runG_true, ↓run2_none, ↓run2_some, ↓run3_some, ↓vpost_ret, vfin_some, vfin2_some, at_hp, List.map_nil, List.length_cons, List.length_nil, List.map_cons, List.map_nil, List.nil_append, List.append_nil, List.take_succ_cons, List.take_nil, List.drop_zero, Option.map_some, ↓reduceIte, Bool.false_eq_true, Nat.reduceAdd, Nat.reduceLT, Nat.reduceBEq, Int.reduceLT, Int.reduceAdd, Int.reduceBEq, Nat.zero_add, true_and, Bool.true_and, beq_self_eq_true, Nat.le_refl, Try.vt29, dec_t, Ret, DV.nums]))
    | (refine vdrG_split (fun hZ => ?_) (fun hZ => ?_) <;> (try rw [hZ]) <;> (try simp only [decide_eq_true_eq, decide_eq_false_iff_not, Bool.or_eq_true, Bool.and_eq_true, Bool.or_eq_false_iff, Bool.and_eq_false_imp, Bool.not_eq_true', Bool.not_eq_false', beq_iff_eq, beq_eq_false_iff_ne, bne_iff_ne, bne_eq_false_iff_eq, ne_eq, Bool.not_eq_eq_eq_not, Bool.not_true, Bool.not_false] at hZ) <;> (try (first | rw [(hZ : _ = false)] | rw [(hZ : _ = true)])) <;> skip)
    | (refine vc_pure (hv) rfl ?_; (try simp (config := { maxSteps := 2000000 }) (implicitDefEqProofs := false) (disch := first | omega | assumption | (simp only []; done) | fail) only [vop_unOp, vcallee_unOp, strip_pv, optV_none, ev_tmp, put_some, at_mk, fits_some, ↓look_cons, ↓vlook_t, guard_none, ↓vrun_nil, ↓onNormal_normal, un_not, evG_eq, ↓vrun_cons, ↓run1_some, ↓runG_true, ↓run2_none, ↓run3_some, ↓runK_eq, ↓code_cond, ↓vtest_bool, at_hp, Option.map_some, Nat.reduceLT, Int.reduceLT, true_and, Bool.true_and, beq_self_eq_true, dec_t]))
    | (refine vc_pure (hf (by assumption)) rfl ?_; (try simp (config := { maxSteps := 2000000 }) (implicitDefEqProofs := false) (disch := first | omega | assumption | (simp only []; done) | fail) only [vop_assign, vcallee_assign, vop_builtin, vcallee_builtin, strip_pv, optV_none, ev_tmp, put_some, at_mk, fits_some, ↓look_cons, ↓vlook_t, guard_none, ↓vrun_nil, ↓code_ret, ↓onNormal_normal, frz_pv, frzHeap_zero, res_one, vres_tmp, len_sl, vlk_sl, bi_len, evG_eq, ↓vrun_cons, ↓run1_some, ↓runG_true, ↓run2_none, ↓run3_some, ↓runK_eq, ↓vpost_ret, vfin_some, vfin2_some, at_hp, List.map_nil, List.map_cons, List.map_nil, Option.map_some, Nat.reduceLT, Int.reduceLT, and_self, Bool.and_self, beq_self_eq_true, fz_len, Try.vkind27, dec_t, Ret, DV.nums]))
    )
  · rfl
end Go.Proofs.Ytjjjlkjhojdnnaa

namespace Go.Proofs.Ytjjjlkjhojdnnaa
open Go.V Go
set_option maxRecDepth 100000
set_option pp.deepTerms true
set_option pp.deepTerms.threshold 100000
set_option pp.maxSteps 1000000
set_option pp.proofs false
set_option linter.unusedSimpArgs false

/-- What is still to be written of places. -/
def mrest (n f : Int) : Bool → List Pl → List Pl
  | false, [] => [⟨n, f⟩]
  | true, [] => []
  | false, p :: l => (if n ≤ p.pg then [⟨n, f⟩] else []) ++ (if p.pg = n then [] else [p]) ++ mrest n f (decide (n ≤ p.pg)) l
  | true, p :: l => (if p.pg = n then [] else [p]) ++ mrest n f true l
structure MW (l : List Pl) (n f : Int) where
  i : Nat
  d : Bool
  o : List Pl
  hi : i ≤ l.length
  e : o ++ mrest n f d (l.drop i) = mrest n f false l
  ho : o.length ≤ 2 * i
theorem mrest_true (n f : Int) : ∀ l : List Pl, (∀ p ∈ l, n < p.pg) → mrest n f true l = l
  | [], _ => rfl
  | p :: l, h => by
    rw [mrest, if_neg (by have := h p (by simp); omega), mrest_true n f l fun q hq => h q (by simp [hq])]
    rfl
theorem plo_cons (p : Pl) (l : List Pl) (n : Int) : plo (p :: l) n = if p.pg < n then plo l n + 1 else 0 := by
  unfold plo lo
  rw [List.takeWhile_cons]
  by_cases h : p.pg < n
  · rw [if_pos h, if_pos (by rw [decide_eq_true_eq]; omega)]; rfl
  · rw [if_neg h, if_neg (by rw [decide_eq_true_eq]; omega)]; rfl
theorem mrest_setP (n f : Int) : ∀ l : List Pl, (l.map (·.pg)).Pairwise (· < ·) → mrest n f false l = setP l n f
  | [], _ => by simp [mrest, setP, pfound, plo, lo]
  | p :: l, h => by
    rw [List.map_cons, List.pairwise_cons] at h
    have ih := mrest_setP n f l h.2
    have hlt : ∀ q ∈ l, p.pg < q.pg := fun q hq => h.1 _ (List.mem_map.2 ⟨q, hq, rfl⟩)
    have e1 := plo_cons p l n
    rcases Int.lt_trichotomy p.pg n with h1 | h1 | h1
    · rw [if_pos h1] at e1
      have e2 : pfound (p :: l) n = pfound l n := by rw [pfound, e1, pfound]; rfl
      rw [mrest, if_neg (by omega), if_neg (by omega), decide_eq_false (by omega), ih, setP, setP, e1, e2]
      split <;> rfl
    · rw [if_neg (by omega)] at e1
      have e2 : pfound (p :: l) n = true := by rw [pfound, e1]; simp; omega
      rw [mrest, if_pos (by omega), if_pos h1, decide_eq_true (by omega), mrest_true n f l (fun q hq => by have := hlt q hq; omega), setP, if_pos e2, e1]
      rfl
    · rw [if_neg (by omega)] at e1
      have e2 : ¬ pfound (p :: l) n = true := by rw [pfound, e1]; simp; omega
      rw [mrest, if_pos (by omega), if_neg (by omega), decide_eq_true (by omega), mrest_true n f l (fun q hq => by have := hlt q hq; omega), setP, if_neg e2, e1]
      rfl
theorem MW.step {l : List Pl} {n f : Int} (s : MW l n f) (h : s.i < l.length) : s.o ++ mrest n f s.d (l[s.i] :: l.drop (s.i + 1)) = mrest n f false l := by
  rw [← s.e, List.drop_eq_getElem_cons h]
theorem MW.fin {l : List Pl} {n f : Int} (s : MW l n f) (h : ¬ s.i < l.length) : s.o ++ mrest n f s.d [] = mrest n f false l := by
  rw [← s.e, List.drop_of_length_le (by omega)]
end Go.Proofs.Ytjjjlkjhojdnnaa
