/- AX, part 46: polynomials: canonical. -/
import Derived.Test.YtkkdpjmefjampaaGreatB3
import Derived.Test.YtkkdpjmefjampaaGreatC1
set_option linter.unusedVariables false
set_option linter.unusedSimpArgs false
set_option maxRecDepth 4000
set_option maxHeartbeats 4000000
namespace Go.AX
open Go Go.RowKit Go.Proofs
attribute [local irreducible] WOps WD W

/-- The list of a polynomial that need not be canonical. -/
theorem RV.list {d L n : Nat} {lv : Int} {ng : Bool} {a b : AV} (h : RV (d + 1) L n [.int .i64 lv, .bool ng, a, b]) : ∃ lb, lb ≤ L ∧ (∀ H, builtinA Tryz.prog .len [27] H [b] = some (.int .i64 (lb : Nat), H)) ∧ (lb = 0 → b = .nilsl ∨ ∃ cap, b = .lst [] 0 cap) ∧
    (0 < lb → ∃ cells cap, b = .lst cells lb cap ∧ cells.length = lb * 4) ∧ ∀ i, i < lb → ∃ p cs, indexAddrA Tryz.prog 27 b i = some p ∧ (∀ H, loadA Tryz.prog H 29 p = some (.agg cs)) ∧ RV d L n cs ∧ ∀ cells cap, b = .lst cells lb cap → (cells.drop (i * 4)).take 4 = cs := by
  obtain ⟨lv', ng', a', b', e, h2, h3⟩ := h
  simp at e
  obtain ⟨rfl, rfl, rfl, rfl⟩ := e
  rcases h3 with rfl | ⟨cells, len, cap, rfl, c1, c2, c3⟩
  · exact ⟨0, Nat.zero_le _, fun H => by simp [builtinA, P27], fun _ => .inl rfl, fun h => by omega, fun i hi => by omega⟩
  · refine ⟨len, c2, fun H => by simp [builtinA, P27], fun h0 => .inr ⟨cap, ?_⟩, fun _ => ⟨cells, cap, rfl, c1⟩, fun i hi => ⟨_, _, idx27 hi c1, fun H => load29c hi c1 rfl, c3 i hi, fun cells' cap' e => by simp at e; rw [e.1]⟩⟩
    subst h0
    have hnil : cells = [] := List.eq_nil_of_length_eq_zero (by omega)
    rw [hnil]

theorem canonical_con : ∀ (d L n : Nat) (p : List AV) (be : Int), RV d L n p → n ≤ 2 ^ 36 → L ≤ 2 ^ 36 → Con 88 [.agg p, .int .i64 be] (fun r => ∃ b, r = .bool b ∧ (b = true → ∀ l, be = ((l + 1 : Nat) : Int) → CV l L n p)) := by
  intro d
  induction d with
  | zero => intro L n p be h; exact h.elim
  | succ d ih =>
  intro L n p be hp hn hL
  have hp' := hp
  obtain ⟨lv, ng, a, b, rfl, ha, f_b⟩ := hp.pv
  obtain ⟨lb, hlb, flen, fz, fpos, fget⟩ := hp'.list
  have f_a := nv_flat ha
  refine con_ret (Sp := Spec) Tryz.func88 rfl ?_
  show W (ES Spec) _ _ ⟨[.agg ([.int .i64 lv, .bool ng, a, b]), .int .i64 be] ++ List.replicate 68 .undef, []⟩
  have hh1 := @Has.nil ([] : Heap)
  refine W.seq (W.region ?_)
  refine o_bx hh1 (.agg ([.int .i64 lv, .bool ng, a, b])) [.int .i64 lv, .bool ng, a, b] rfl (oc1 rfl (oc1 rfl (oc1 (one_of_flat f_a) (oc1 (one_of_flat f_b) oc0)))) rfl (by kernel_rfl) fun q2 H2 hh3 => ?_
  refine WOps.run dr1 [(4, .bool false)] (by kernel_rfl) ?_
  refine WOps.e0 (Th_n (W.seq (W.seq (W.region ?_))))
  refine WOps.run dr1 [(7, .ptr q2 0)] (by kernel_rfl) ?_
  refine o_ld hh3 0 0 (.int .i64 lv) rfl rfl (by kernel_rfl) ?_
  by_cases hlv : lv = 0
  · subst hlv
    refine WOps.run dr1 [(9, .bool true)] (by kernel_rfl) ?_
    refine WOps.e0 (Th_n (W.condT (by kernel_rfl) (W.seq (W.region ?_))))
    refine WOps.run dr1 [(10, .ptr q2 3)] (by kernel_rfl) ?_
    refine o_ld hh3 0 3 (b) rfl rfl (by kernel_rfl) ?_
    refine o_vb (.int .i64 (lb : Nat)) (flen _) (by kernel_rfl) ?_
    by_cases hlb0 : lb = 0
    · have hcv : ∀ l, CV l L n [.int .i64 0, .bool ng, a, b] := fun l => CV.up (l := 0) ⟨ng, a, b, rfl, ha, fz hlb0⟩ (by omega)
      refine o_v2 (.bool ((((lb : Nat) : Int) == (0 : Int)))) (.bool true) (congrArg AV.bool (beq_iff_eq.2 (by omega))) (by kernel_rfl) ?_
      refine WOps.run dr3 [(14, .bool true), (15, .ptr q2 1), (16, .ptr q2 1)] (by kernel_rfl) ?_
      refine o_ld hh3 0 1 (.bool ng) rfl rfl (by kernel_rfl) ?_
      cases ng with
      | false =>
        refine WOps.run dr9 [(18, .bool true), (19, .bool true), (20, .undef), (21, .undef), (22, .undef), (23, .undef), (24, .bool true), (25, .bool true), (4, .bool true)] (by kernel_rfl) ?_
        refine WOps.e0 (Th_n (W.ret (Th_r ?_)))
        exact ret_t (r' := .bool true) (⟨true, rfl, fun _ l _ => hcv l⟩) (.inr rfl) rfl (by kernel_rfl) (vflat rfl)
      | true =>
        refine WOps.run dr3 [(18, .bool false), (19, .bool false), (20, .ptr q2 1)] (by kernel_rfl) ?_
        refine o_ld hh3 0 1 (.agg ([.bool true, a])) rfl rfl (by kernel_rfl) ?_
        refine o_call (ys := [.agg ([.bool true, a])]) (vcons (vagg (vflats (fc rfl (fc f_a fn0)))) vnil) (sign_con true a n ha (by omega)) rfl (by kernel_rfl) fun z Oz hz => ?_
        obtain ⟨zv, rfl⟩ := hz
        by_cases hz0 : zv = 0
        · refine o_v2 (.bool (((zv : Int) != (0 : Int)))) (.bool false) (congrArg AV.bool (bneF (by omega))) (by kernel_rfl) ?_
          refine WOps.run dr3 [(24, .bool false), (25, .bool false), (4, .bool false)] (by kernel_rfl) ?_
          refine WOps.e0 (Th_n (W.ret (Th_r ?_)))
          exact ret_t (r' := .bool false) (⟨false, rfl, fun h => by simp at h⟩) (.inr rfl) rfl (by kernel_rfl) (vflat rfl)
        · refine o_v2 (.bool (((zv : Int) != (0 : Int)))) (.bool true) (congrArg AV.bool (bne_iff_ne.2 (by omega))) (by kernel_rfl) ?_
          refine WOps.run dr3 [(24, .bool true), (25, .bool true), (4, .bool true)] (by kernel_rfl) ?_
          refine WOps.e0 (Th_n (W.ret (Th_r ?_)))
          exact ret_t (r' := .bool true) (⟨true, rfl, fun _ l _ => hcv l⟩) (.inr rfl) rfl (by kernel_rfl) (vflat rfl)
    · refine o_v2 (.bool ((((lb : Nat) : Int) == (0 : Int)))) (.bool false) (congrArg AV.bool (beq_eq_false_iff_ne.2 (by omega))) (by kernel_rfl) ?_
      refine WOps.run (drx dr3) [(14, .bool false), (15, .undef), (16, .undef), (17, .undef), (18, .undef), (19, .undef), (20, .undef), (21, .undef), (22, .undef), (23, .undef), (24, .undef), (25, .bool false), (4, .bool false)] (by kernel_rfl) ?_
      refine WOps.e0 (Th_n (W.ret (Th_r ?_)))
      exact ret_t (r' := .bool false) (⟨false, rfl, fun h => by simp at h⟩) (.inr rfl) rfl (by kernel_rfl) (vflat rfl)
  · refine o_v2 (.bool (((lv : Int) == (0 : Int)))) (.bool false) (congrArg AV.bool (beq_eq_false_iff_ne.2 (hlv))) (by kernel_rfl) ?_
    refine WOps.e0 (Th_n (W.condF (by kernel_rfl) (W.skip (Th_n (W.seq (W.seq (W.region ?_)))))))
    refine WOps.run dr1 [(26, .ptr q2 0)] (by kernel_rfl) ?_
    refine o_ld hh3 0 0 (.int .i64 lv) rfl rfl (by kernel_rfl) ?_
    by_cases h1 : lv < 0
    · refine o_v2 (.bool (decide ((lv : Int) < (0 : Int)))) (.bool true) (congrArg AV.bool (decide_eq_true (h1))) (by kernel_rfl) ?_
      refine WOps.run (drx dr8) [(29, .bool true), (30, .undef), (31, .undef), (32, .undef), (33, .undef), (34, .bool true), (35, .bool true), (36, .undef), (37, .undef), (38, .undef), (39, .undef), (40, .bool true), (41, .bool true), (42, .undef), (43, .undef), (44, .undef), (45, .undef), (46, .bool true)] (by kernel_rfl) ?_
      refine WOps.e0 (Th_n (W.condT (by kernel_rfl) (W.seq (W.region ?_))))
      refine WOps.run dr1 [(4, .bool false)] (by kernel_rfl) ?_
      refine WOps.e0 (Th_n (W.ret (Th_r ?_)))
      exact ret_t (r' := .bool false) (⟨false, rfl, fun h => by simp at h⟩) (.inr rfl) rfl (by kernel_rfl) (vflat rfl)
    · refine o_v2 (.bool (decide ((lv : Int) < (0 : Int)))) (.bool false) (congrArg AV.bool (decide_eq_false (h1))) (by kernel_rfl) ?_
      refine WOps.run dr2 [(29, .bool false), (30, .ptr q2 0)] (by kernel_rfl) ?_
      refine o_ld hh3 0 0 (.int .i64 lv) rfl rfl (by kernel_rfl) ?_
      refine WOps.run dr1 [(32, .int .i64 be)] (by kernel_rfl) ?_
      by_cases h2 : lv ≥ be
      · refine o_v2 (.bool (decide ((lv : Int) ≥ (be : Int)))) (.bool true) (congrArg AV.bool (decide_eq_true (h2))) (by kernel_rfl) ?_
        refine WOps.run (drx dr3) [(34, .bool true), (35, .bool true), (36, .undef), (37, .undef), (38, .undef), (39, .undef), (40, .bool true), (41, .bool true), (42, .undef), (43, .undef), (44, .undef), (45, .undef), (46, .bool true)] (by kernel_rfl) ?_
        refine WOps.e0 (Th_n (W.condT (by kernel_rfl) (W.seq (W.region ?_))))
        refine WOps.run dr1 [(4, .bool false)] (by kernel_rfl) ?_
        refine WOps.e0 (Th_n (W.ret (Th_r ?_)))
        exact ret_t (r' := .bool false) (⟨false, rfl, fun h => by simp at h⟩) (.inr rfl) rfl (by kernel_rfl) (vflat rfl)
      · refine o_v2 (.bool (decide ((lv : Int) ≥ (be : Int)))) (.bool false) (congrArg AV.bool (decide_eq_false (h2))) (by kernel_rfl) ?_
        refine WOps.run dr3 [(34, .bool false), (35, .bool false), (36, .ptr q2 3)] (by kernel_rfl) ?_
        refine o_ld hh3 0 3 (b) rfl rfl (by kernel_rfl) ?_
        refine o_vb (.int .i64 (lb : Nat)) (flen _) (by kernel_rfl) ?_
        by_cases h3 : lb < 2
        · refine o_v2 (.bool (decide (((lb : Nat) : Int) < (2 : Int)))) (.bool true) (congrArg AV.bool (decide_eq_true (by omega))) (by kernel_rfl) ?_
          refine WOps.run dr7 [(40, .bool true), (41, .bool true), (42, .undef), (43, .undef), (44, .undef), (45, .undef), (46, .bool true)] (by kernel_rfl) ?_
          refine WOps.e0 (Th_n (W.condT (by kernel_rfl) (W.seq (W.region ?_))))
          refine WOps.run dr1 [(4, .bool false)] (by kernel_rfl) ?_
          refine WOps.e0 (Th_n (W.ret (Th_r ?_)))
          exact ret_t (r' := .bool false) (⟨false, rfl, fun h => by simp at h⟩) (.inr rfl) rfl (by kernel_rfl) (vflat rfl)
        · refine o_v2 (.bool (decide (((lb : Nat) : Int) < (2 : Int)))) (.bool false) (congrArg AV.bool (decide_eq_false (by omega))) (by kernel_rfl) ?_
          refine WOps.run dr3 [(40, .bool false), (41, .bool false), (42, .ptr q2 1)] (by kernel_rfl) ?_
          refine o_ld hh3 0 1 (.agg ([.bool ng, a])) rfl rfl (by kernel_rfl) ?_
          refine o_call (ys := [.agg ([.bool ng, a])]) (vcons (vagg (vflats (fc rfl (fc f_a fn0)))) vnil) (sign_con ng a n ha (by omega)) rfl (by kernel_rfl) fun z Oz hz => ?_
          obtain ⟨zv, rfl⟩ := hz
          by_cases hz0 : zv = 0
          · obtain ⟨k, hk⟩ : ∃ k : Nat, lv = ((k + 1 : Nat) : Int) := ⟨lv.toNat - 1, by omega⟩
            refine o_v2 (.bool (((zv : Int) != (0 : Int)))) (.bool false) (congrArg AV.bool (bneF (hz0))) (by kernel_rfl) ?_
            refine WOps.run dr1 [(46, .bool false)] (by kernel_rfl) ?_
            refine WOps.e0 (Th_n (W.condF (by kernel_rfl) (W.skip (Th_n (W.seq (W.seq (W.region ?_)))))))
            refine WOps.run dr1 [(47, .ptr q2 3)] (by kernel_rfl) ?_
            refine o_ld hh3 0 3 (b) rfl rfl (by kernel_rfl) ?_
            refine o_vb (.int .i64 (lb : Nat)) (flen _) (by kernel_rfl) ?_
            refine WOps.run dr1 [(50, .int .i64 0)] (by kernel_rfl) ?_
            refine WOps.e0 (Th_n (W.blk ?_))
            refine W.lp (fun T u T1 H1 => ∃ (t4 t6 t51 t52 t53 t54 t55 t56 t57 t58 t59 : AV) (i : Nat), ups T [(4, t4), (6, t6), (50, .int .i64 (i : Nat)), (51, t51), (52, t52), (53, t53), (54, t54), (55, t55), (56, t56), (57, t57), (58, t58), (59, t59)] = T1 ∧ Has H1 [(q2, .cells ([.int .i64 lv, .bool ng, a, b]))] ∧ i + u = lb ∧ ∀ j, j < i → ∀ cells cap, b = .lst cells lb cap → CV k L n ((cells.drop (j * 4)).take 4)) (lb) ⟨.bool false, .undef, .undef, .undef, .undef, .undef, .undef, .undef, .undef, .undef, .undef, 0, by kernel_rfl, hh3.pick [0] (by decide), Nat.zero_add _, fun j hj => by omega⟩ ?_
            rintro u _ H4 ⟨t4, t6, t51, t52, t53, t54, t55, t56, t57, t58, t59, i, rfl, hh5, hi, hall⟩
            refine W.seq (W.region ?_)
            by_cases hlt : i < lb
            · obtain ⟨pp, cs, hpp, hld, hcs, hcc⟩ := fget i hlt
              obtain ⟨lv2, ng2, a2, e2, rfl, ha2, f_e2⟩ := hcs.pv
              have f_a2 := nv_flat ha2
              refine o_v2 (.bool (decide (((i : Nat) : Int) < ((lb : Nat) : Int)))) (.bool true) (congrArg AV.bool (decide_eq_true (by omega))) (by kernel_rfl) ?_
              refine WOps.e0 (Th_n (W.seq (W.condT (by kernel_rfl) (W.skip (Th_n (W.seq (W.blk (W.seq (W.region ?_)))))))))
              refine o_vk (pp) (hpp) (by kernel_rfl) ?_
              refine o_vk (.agg ([.int .i64 lv2, .bool ng2, a2, e2])) (hld H4) (by kernel_rfl) ?_
              refine o_al hh5 (.agg ([.int .i64 0, .bool false, .nilsl, .nilsl])) rfl (by kernel_rfl) fun q6 H6 hh7 => ?_
              refine o_st hh7 0 0 (.agg ([.int .i64 lv2, .bool ng2, a2, e2])) [.int .i64 lv2, .bool ng2, a2, e2] rfl rfl (oc1 rfl (oc1 rfl (oc1 (one_of_flat f_a2) (oc1 (one_of_flat f_e2) oc0)))) (by kernel_rfl) fun H8 hh9 => ?_
              refine WOps.e0 (Th_n (W.seq (W.region ?_)))
              refine o_ld hh9 0 0 (.agg ([.int .i64 lv2, .bool ng2, a2, e2])) rfl rfl (by kernel_rfl) ?_
              refine WOps.run dr1 [(55, .ptr q2 0)] (by kernel_rfl) ?_
              refine o_ld hh9 1 0 (.int .i64 lv) rfl rfl (by kernel_rfl) ?_
              refine o_call (ys := [.agg ([.int .i64 lv2, .bool ng2, a2, e2]), .int .i64 lv]) (vcons (vagg (vflats (fc rfl (fc rfl (fc f_a2 (fc f_e2 fn0)))))) (vcons (vflat rfl) vnil)) ((ih L n _ lv hcs hn hL).imp fun r ⟨c, e, hc⟩ => ⟨c, e, fun hb l d L' n' hl hr => (hc hb l hl).of_rv hr⟩) rfl (by kernel_rfl) fun z Oz hz => ?_
              obtain ⟨c, rfl, hc⟩ := hz
              cases c with
              | false =>
                refine WOps.run dr1 [(58, .bool true)] (by kernel_rfl) ?_
                refine WOps.e0 (Th_n (W.condT (by kernel_rfl) (W.seq (W.region ?_))))
                refine WOps.run dr1 [(4, .bool false)] (by kernel_rfl) ?_
                refine WOps.e0 (Th_n (W.ret (Bk_r (Th_r (Th_r (Bk_r (Th_r ?_)))))))
                exact ret_t (r' := .bool false) (⟨false, rfl, fun h => by simp at h⟩) (.inr rfl) rfl (by kernel_rfl) (vflat rfl)
              | true =>
                refine WOps.run dr1 [(58, .bool false)] (by kernel_rfl) ?_
                refine WOps.e0 (Th_n (W.condF (by kernel_rfl) (W.skip (Bk_n (Th_n (W.region ?_))))))
                refine o_v2 (.int .i64 (IntKind.i64.wrap (((i : Nat) : Int) + (1 : Int)))) (.int .i64 (((i + 1 : Nat) : Int))) (congrArg (AV.int .i64) (by rw [wrapN] <;> omega)) (by kernel_rfl) ?_
                refine WOps.run dr1 [(50, .int .i64 ((i + 1 : Nat) : Int))] (by kernel_rfl) ?_
                refine WOps.e0 (Th_n ?_)
                have hnew := hc rfl k d L n hk hcs
                exact ⟨u - 1, by omega, t4, .ptr q6 0, .bool true, pp, .agg ([.int .i64 lv2, .bool ng2, a2, e2]), .agg ([.int .i64 lv2, .bool ng2, a2, e2]), .ptr q2 0, .int .i64 lv, .bool true, .bool false, .int .i64 ((i + 1 : Nat) : Int), (i + 1), by kernel_rfl, hh9.pick [1] (by decide), by omega, fun j hj cells cap e => (Nat.lt_succ_iff_lt_or_eq.1 hj).elim (fun h => hall j h cells cap e) fun h => by rw [h, hcc cells cap e]; exact hnew⟩
            · refine o_v2 (.bool (decide (((i : Nat) : Int) < ((lb : Nat) : Int)))) (.bool false) (congrArg AV.bool (decide_eq_false (by omega))) (by kernel_rfl) ?_
              refine WOps.e0 (Th_n (W.seq (W.condF (by kernel_rfl) (W.exit (Th_e (Th_e (Bk_s (Th_n (W.seq (W.region ?_))))))))))
              refine WOps.run dr1 [(60, .ptr q2 3)] (by kernel_rfl) ?_
              refine o_ld hh5 0 3 (b) rfl rfl (by kernel_rfl) ?_
              refine WOps.run dr1 [(62, .ptr q2 3)] (by kernel_rfl) ?_
              refine o_ld hh5 0 3 (b) rfl rfl (by kernel_rfl) ?_
              obtain ⟨pp, cs, hpp, hld, hcs, hcc⟩ := fget (lb - 1) (by omega)
              obtain ⟨lv2, ng2, a2, e2, rfl, ha2, f_e2⟩ := hcs.pv
              have f_a2 := nv_flat ha2
              refine o_vb (.int .i64 (lb : Nat)) (flen _) (by kernel_rfl) ?_
              refine o_v2 (.int .i64 (IntKind.i64.wrap (((lb : Nat) : Int) - (1 : Int)))) (.int .i64 (((lb - 1 : Nat) : Int))) (congrArg (AV.int .i64) (by rw [wrapN] <;> omega)) (by kernel_rfl) ?_
              refine o_vk (pp) (hpp) (by kernel_rfl) ?_
              refine o_vk (.agg ([.int .i64 lv2, .bool ng2, a2, e2])) (hld H4) (by kernel_rfl) ?_
              refine o_call (ys := [.agg ([.int .i64 lv2, .bool ng2, a2, e2])]) (vcons (vagg (vflats (fc rfl (fc rfl (fc f_a2 (fc f_e2 fn0)))))) vnil) (zero_con n _ hcs.pv (by omega)) rfl (by kernel_rfl) fun z Oz hz => ?_
              obtain ⟨c, rfl⟩ := hz
              have hcv : ∀ l, be = ((l + 1 : Nat) : Int) → CV l L n [.int .i64 lv, .bool ng, a, b] := by
                intro l hl
                obtain ⟨cells, cap, rfl, hcl⟩ := fpos (by omega)
                subst hk
                exact CV.up (l := k + 1) (.inr ⟨ng, a, cells, lb, cap, rfl, ha, hcl, by omega, hlb, fun j hj => hall j (by omega) cells cap rfl⟩) (by omega)
              cases c with
              | false =>
                refine WOps.run dr2 [(69, .bool true), (4, .bool true)] (by kernel_rfl) ?_
                refine WOps.e0 (Th_n (W.ret ?_))
                exact ret_t (r' := .bool true) (⟨true, rfl, fun _ => hcv⟩) (.inr rfl) rfl (by kernel_rfl) (vflat rfl)
              | true =>
                refine WOps.run dr2 [(69, .bool false), (4, .bool false)] (by kernel_rfl) ?_
                refine WOps.e0 (Th_n (W.ret ?_))
                exact ret_t (r' := .bool false) (⟨false, rfl, fun h => by simp at h⟩) (.inr rfl) rfl (by kernel_rfl) (vflat rfl)
          · refine o_v2 (.bool (((zv : Int) != (0 : Int)))) (.bool true) (congrArg AV.bool (bne_iff_ne.2 (hz0))) (by kernel_rfl) ?_
            refine WOps.run dr1 [(46, .bool true)] (by kernel_rfl) ?_
            refine WOps.e0 (Th_n (W.condT (by kernel_rfl) (W.seq (W.region ?_))))
            refine WOps.run dr1 [(4, .bool false)] (by kernel_rfl) ?_
            refine WOps.e0 (Th_n (W.ret (Th_r ?_)))
            exact ret_t (r' := .bool false) (⟨false, rfl, fun h => by simp at h⟩) (.inr rfl) rfl (by kernel_rfl) (vflat rfl)

theorem canonical_spec {d L n : Nat} {p : List AV} {be : Int} (hp : RV d L n p) (hn : n ≤ 2 ^ 36) (hL : L ≤ 2 ^ 36) : Con 88 [.agg p, .int .i64 be] (Spec 88 [.agg p, .int .i64 be]) :=
  (canonical_con d L n p be hp hn hL).imp fun r ⟨c, e, hc⟩ => ⟨c, e, fun hb l d L' n' hl hr => (hc hb l hl).of_rv hr⟩

end Go.AX

/- AX, part 47: polynomials: Normal. -/
set_option linter.unusedVariables false
set_option linter.unusedSimpArgs false
set_option maxRecDepth 4000
set_option maxHeartbeats 4000000
namespace Go.AX
open Go Go.RowKit Go.Proofs
attribute [local irreducible] WOps WD W

theorem kp {H : Heap} {X : Option AV} {v : AV} (h : X = some v) : keep H X = some (v, H) := by rw [h]; rfl

theorem RV.inf : ∀ {d d' L L' n n' : Nat} {cs : List AV}, RV d L n cs → RV d' L' n' cs → RV (min d d') (min L L') (min n n') cs
  | 0, _, _, _, _, _, _, h, _ => h.elim
  | d + 1, 0, _, _, _, _, _, _, h => h.elim
  | d + 1, d' + 1, L, L', n, n', cs, ⟨lv, ng, a, b, e, h2, h3⟩, ⟨lv', ng', a', b', e', h2', h3'⟩ => by
    rw [e] at e'
    simp at e'
    obtain ⟨_, _, rfl, rfl⟩ := e'
    rw [Nat.add_min_add_right]
    refine ⟨lv, ng, a, b, e, h2.inf h2', ?_⟩
    rcases h3 with rfl | ⟨cells, len, cap, rfl, c1, c2, c3⟩
    · exact .inl rfl
    · rcases h3' with h | ⟨cells', len', cap', f1, f2, f3, f4⟩
      · simp at h
      · simp at f1
        obtain ⟨rfl, rfl, rfl⟩ := f1
        exact .inr ⟨cells, len, cap, rfl, c1, by omega, fun i hi => (c3 i hi).inf (f4 i hi)⟩

theorem RV.mono {L L' n n' : Nat} (hL : L ≤ L') (hn : n ≤ n') : ∀ {d d' : Nat} {cs : List AV}, RV d L n cs → d ≤ d' → RV d' L' n' cs
  | 0, _, _, h, _ => h.elim
  | d + 1, 0, _, _, h => by omega
  | d + 1, d' + 1, cs, ⟨lv, ng, a, b, e, h2, h3⟩, h => by
    refine ⟨lv, ng, a, b, e, h2.mono hn, ?_⟩
    rcases h3 with rfl | ⟨cells, len, cap, rfl, c1, c2, c3⟩
    · exact .inl rfl
    · exact .inr ⟨cells, len, cap, rfl, c1, by omega, fun i hi => RV.mono hL hn (c3 i hi) (by omega)⟩

theorem CV.rv {L n : Nat} : ∀ {l : Nat} {cs : List AV}, CV l L n cs → RV (l + 1) L n cs
  | 0, cs, ⟨ng, a, b, h1, h2, h3⟩ => ⟨0, ng, a, b, h1, h2, by
    rcases h3 with rfl | ⟨cap, rfl⟩
    · exact .inl rfl
    · exact .inr ⟨[], 0, cap, rfl, rfl, Nat.zero_le _, fun i hi => by omega⟩⟩
  | l + 1, cs, .inl h => (CV.rv h).mono (Nat.le_refl _) (Nat.le_refl _) (by omega)
  | l + 1, cs, .inr ⟨ng, a, cells, len, cap, h1, h2, h3, h4, h5, h6⟩ => ⟨_, ng, a, _, h1, h2, .inr ⟨cells, len, cap, rfl, h3, h5, fun i hi => CV.rv (h6 i hi)⟩⟩

theorem least3 {P : Nat → Nat → Nat → Prop} (hinf : ∀ d L n d' L' n', P d L n → P d' L' n' → P (min d d') (min L L') (min n n')) {d L n : Nat} (h : P d L n) : ∃ d0 L0 n0, P d0 L0 n0 ∧ ∀ d' L' n', P d' L' n' → d0 ≤ d' ∧ L0 ≤ L' ∧ n0 ≤ n' := by
  obtain ⟨d0, ⟨L1, n1, h1⟩, m1⟩ := least (fun d => ∃ L n, P d L n) d ⟨L, n, h⟩
  obtain ⟨L0, ⟨d2, n2, h2⟩, m2⟩ := least (fun L => ∃ d n, P d L n) L ⟨d, n, h⟩
  obtain ⟨n0, ⟨d3, L3, h3⟩, m3⟩ := least (fun n => ∃ d L, P d L n) n ⟨d, L, h⟩
  have hm := hinf _ _ _ _ _ _ (hinf _ _ _ _ _ _ h1 h2) h3
  have a1 := m1 d2 ⟨_, _, h2⟩
  have a2 := m1 d3 ⟨_, _, h3⟩
  have b1 := m2 L1 ⟨_, _, h1⟩
  have b2 := m2 L3 ⟨_, _, h3⟩
  have c1 := m3 n1 ⟨_, _, h1⟩
  have c2 := m3 n2 ⟨_, _, h2⟩
  have e1 : min (min d0 d2) d3 = d0 := by omega
  have e2 : min (min L1 L0) L3 = L0 := by omega
  have e3 : min (min n1 n2) n0 = n0 := by omega
  rw [e1, e2, e3] at hm
  exact ⟨d0, L0, n0, hm, fun d' L' n' h' => ⟨m1 d' ⟨_, _, h'⟩, m2 L' ⟨_, _, h'⟩, m3 n' ⟨_, _, h'⟩⟩⟩

theorem nL_mono : ∀ {d d' L L' : Nat}, d ≤ d' → L ≤ L' → nL d L ≤ nL d' L'
  | 0, 0, _, _, _, _ => Nat.le_refl _
  | 0, d' + 1, L, L', _, hL => by
    have := nL_mono (d := 0) (d' := d') (Nat.zero_le _) hL
    simp only [nL] at this ⊢
    omega
  | d + 1, 0, _, _, h, _ => by omega
  | d + 1, d' + 1, L, L', h, hL => by
    have := nL_mono (d := d) (d' := d') (by omega) hL
    simp only [nL]
    omega

theorem nL_pos : ∀ (d L : Nat), 1 ≤ nL d L
  | 0, _ => Nat.le_refl _
  | d + 1, L => by simp only [nL]; omega

theorem nN_mono : ∀ {d d' L L' n n' : Nat}, d ≤ d' → L ≤ L' → n ≤ n' → nN d L n ≤ nN d' L' n'
  | 0, 0, _, _, _, _, _, _, h => h
  | 0, d' + 1, L, L', n, n', _, hL, hn => by
    have := nN_mono (d := 0) (d' := d') (Nat.zero_le _) hL hn
    simp only [nN] at this ⊢
    omega
  | d + 1, 0, _, _, _, _, h, _, _ => by omega
  | d + 1, d' + 1, L, L', n, n', h, hL, hn => by
    have h1 := nN_mono (d := d) (d' := d') (by omega) hL hn
    have h2 := nL_mono (d := d + 1) (d' := d' + 1) h hL
    have h3 : L * (4 * nL (d + 1) L + 3) ≤ L' * (4 * nL (d' + 1) L' + 3) := Nat.mul_le_mul hL (by omega)
    simp only [nN]
    omega

theorem CV.fl {l L n : Nat} {lv : Int} {ng : Bool} {a b : AV} (h : CV l L n [.int .i64 lv, .bool ng, a, b]) : isFlat a = true ∧ isFlat b = true ∧ NV n a := by
  obtain ⟨_, _, _, _, e, h1, h2⟩ := h.pv
  simp at e
  obtain ⟨_, _, rfl, rfl⟩ := e
  exact ⟨nv_flat h1, h2, h1⟩

theorem iNormal_spec {ng : Bool} {a : AV} {n : Nat} (ha : NV n a) (hn : n ≤ 2 ^ 40) : Con 87 [.agg [.bool ng, a]] (Spec 87 [.agg [.bool ng, a]]) := by
  obtain ⟨k, hk, hm⟩ := least (fun k => NV k a) n ha
  refine (iNormal_con ng a k hk (by have := hm n ha; omega)).imp fun r hr k' hk' => ?_
  obtain ⟨g, x, e, hx⟩ := hk'
  simp at e
  obtain ⟨_, rfl⟩ := e
  obtain ⟨g', x', e', hx'⟩ := hr
  exact ⟨g', x', e', hx'.mono (hm k' hx)⟩

theorem CV.inf3 {l L n l' L' n' : Nat} {p : List AV} (h : CV l L n p) (h' : CV l' L' n' p) : CV (min l l') (min L L') (min n n') p := by
  by_cases hl : l ≤ l'
  · rw [Nat.min_eq_left hl]; exact h.inf (h'.at h)
  · rw [Nat.min_eq_right (by omega)]; exact (h.at h').inf h'

theorem copied_spec {l L n : Nat} {p : List AV} (hp : CV l L n p) (hL : L ≤ 2 ^ 37) (hn : n ≤ 2 ^ 37) : Con 89 [.agg p] (Spec 89 [.agg p]) := by
  obtain ⟨l0, L0, n0, h0, hm⟩ := least3 (P := fun l L n => CV l L n p) (fun _ _ _ _ _ _ h h' => h.inf3 h') hp
  have := hm _ _ _ hp
  refine (copied_con l0 L0 n0 p h0 (by omega) (by omega)).imp fun r ⟨cs, e, hc⟩ l' L' n' h' => ⟨cs, e, ?_⟩
  have := hm _ _ _ h'
  exact (CV.mono (by omega) (by omega) hc).up (by omega)

theorem pmul_spec {l L M n m : Nat} {p q : List AV} (hp : CV l L n p) (hq : CV l M m q) (hL1 : 1 ≤ L) (hM1 : 1 ≤ M) (hl : l ≤ 4) (hL : L ≤ 2 ^ 30) (hM : M ≤ 2 ^ 30) (hn : n ≤ 2 ^ 30) (hm : m ≤ 2 ^ 30) : Con 91 [.agg p, .agg q] (Spec 91 [.agg p, .agg q]) :=
  mul_spec_of hp hq hL1 hM1 fun l' L' M' n' m' g1 g2 g3 g4 g5 g6 g7 g8 g9 => pmul_con l' L' M' n' m' p q g6 g7 g8 g9 (by omega) (by omega) (by omega) (by omega) (by omega)

theorem pNormal_spec_of {d L n : Nat} {p : List AV} (hp : RV d L n p) (h : ∀ d' L' n', d' ≤ d → L' ≤ L → n' ≤ n → RV d' L' n' p → Con 40 [.agg p] (fun r => ∃ cs, r = .agg cs ∧ CV 4 (nL d' L') (nN d' L' n') cs)) : Con 40 [.agg p] (Spec 40 [.agg p]) := by
  obtain ⟨d0, L0, n0, h0, hm⟩ := least3 (P := fun d L n => RV d L n p) (fun _ _ _ _ _ _ h h' => h.inf h') hp
  have := hm _ _ _ hp
  refine (h d0 L0 n0 this.1 this.2.1 this.2.2 h0).imp fun r ⟨cs, e, hc⟩ d' L' n' h' => ⟨cs, e, ?_⟩
  obtain ⟨k1, k2, k3⟩ := hm _ _ _ h'
  exact CV.mono (nL_mono k1 k2) (nN_mono k1 k2 k3) hc

theorem pNormal_con : ∀ (d L n : Nat) (p : List AV), RV d L n p → L ≤ 2 ^ 20 → nL d L ≤ 2 ^ 30 → nN d L n ≤ 2 ^ 30 → Con 40 [.agg p] (fun r => ∃ cs, r = .agg cs ∧ CV 4 (nL d L) (nN d L n) cs) := by
  intro d0
  induction d0 using Nat.strongRecOn with
  | _ d0 ih =>
  intro L n p hp hL hnL hnN
  cases d0 with
  | zero => exact hp.elim
  | succ d =>
  have hp' := hp
  obtain ⟨lv, ng, a, b, rfl, ha, f_b⟩ := hp.pv
  obtain ⟨lb, hlb, flen, fz, fpos, fget⟩ := hp'.list
  have f_a := nv_flat ha
  have hn' : n ≤ nN (d + 1) L n := by simp only [nN]; omega
  have hL' : L ≤ nL (d + 1) L := by simp only [nL]; omega
  refine con_ret (Sp := Spec) Tryz.func40 rfl ?_
  show W (ES Spec) _ _ ⟨[.agg ([.int .i64 lv, .bool ng, a, b])] ++ List.replicate 43 .undef, []⟩
  have hh1 := @Has.nil ([] : Heap)
  refine W.seq (W.region ?_)
  refine o_bx hh1 (.agg ([.int .i64 lv, .bool ng, a, b])) [.int .i64 lv, .bool ng, a, b] rfl (oc1 rfl (oc1 rfl (oc1 (one_of_flat f_a) (oc1 (one_of_flat f_b) oc0)))) rfl (by kernel_rfl) fun q1 H2 hh3 => ?_
  refine o_al hh3 (.agg ([.int .i64 0, .bool false, .nilsl, .nilsl])) rfl (by kernel_rfl) fun q2 H4 hh5 => ?_
  refine WOps.e0 (Th_n (W.seq (W.seq (W.region ?_))))
  refine WOps.run dr1 [(6, .ptr q1 0)] (by kernel_rfl) ?_
  refine o_ld hh5 1 0 (.int .i64 lv) rfl rfl (by kernel_rfl) ?_
  by_cases h0 : lv ≤ 0
  · refine o_v2 (.bool (decide ((lv : Int) ≤ (0 : Int)))) (.bool true) (congrArg AV.bool (decide_eq_true (h0))) (by kernel_rfl) ?_
    refine WOps.e0 (Th_n (W.condT (by kernel_rfl) (W.seq (W.region ?_))))
    refine WOps.run dr1 [(9, .ptr q1 1)] (by kernel_rfl) ?_
    refine o_ld hh5 1 1 (.agg ([.bool ng, a])) rfl rfl (by kernel_rfl) ?_
    refine o_call (ys := [.agg ([.bool ng, a])]) (vcons (vagg (vflats (fc rfl (fc f_a fn0)))) vnil) (iNormal_spec ha (by omega)) rfl (by kernel_rfl) fun z Oz hz => ?_
    obtain ⟨zb, z, rfl, hzn⟩ := hz n ⟨ng, a, rfl, ha⟩
    have f_z := nv_flat hzn
    refine WOps.run dr1 [(12, .agg ([.int .i64 0, .bool zb, z, .nilsl]))] (by kernel_rfl) ?_
    refine o_st hh5 0 0 (.agg ([.int .i64 0, .bool zb, z, .nilsl])) [.int .i64 0, .bool zb, z, .nilsl] rfl rfl (oc1 rfl (oc1 rfl (oc1 (one_of_flat f_z) (oc1 rfl oc0)))) (by kernel_rfl) fun H6 hh7 => ?_
    refine WOps.e0 (Th_n (W.ret (Th_r ?_)))
    exact ret_c (r' := .agg ([.int .i64 0, .bool zb, z, .nilsl])) (id := q2) (off := 0) (r := .agg ([.int .i64 0, .bool zb, z, .nilsl])) (⟨_, rfl, CV.up (l := 0) ⟨zb, z, .nilsl, rfl, hzn.mono hn', .inl rfl⟩ (by omega)⟩) hh7 0 rfl (.inr rfl) rfl (by kernel_rfl) (by kernel_rfl) (vagg (vflats (fc rfl (fc rfl (fc f_z (fc rfl fn0))))))
  · refine o_v2 (.bool (decide ((lv : Int) ≤ (0 : Int)))) (.bool false) (congrArg AV.bool (decide_eq_false (h0))) (by kernel_rfl) ?_
    refine WOps.e0 (Th_n (W.condF (by kernel_rfl) (W.skip (Th_n (W.seq (W.seq (W.region ?_)))))))
    refine WOps.run dr1 [(13, .ptr q1 0)] (by kernel_rfl) ?_
    refine o_ld hh5 1 0 (.int .i64 lv) rfl rfl (by kernel_rfl) ?_
    by_cases h4 : lv > 4
    · refine o_v2 (.bool (decide ((lv : Int) > (4 : Int)))) (.bool true) (congrArg AV.bool (decide_eq_true (h4))) (by kernel_rfl) ?_
      refine WOps.e0 (Th_n (W.condT (by kernel_rfl) (W.seq (W.region ?_))))
      refine WOps.run dr1 [(16, .agg ([.int .i64 0, .bool false, .nilsl, .nilsl]))] (by kernel_rfl) ?_
      refine o_st hh5 0 0 (.agg ([.int .i64 0, .bool false, .nilsl, .nilsl])) [.int .i64 0, .bool false, .nilsl, .nilsl] rfl rfl rfl (by kernel_rfl) fun H8 hh9 => ?_
      refine WOps.e0 (Th_n (W.ret (Th_r ?_)))
      exact ret_c (r' := .agg ([.int .i64 0, .bool false, .nilsl, .nilsl])) (id := q2) (off := 0) (r := .agg ([.int .i64 0, .bool false, .nilsl, .nilsl])) (⟨_, rfl, zero_cv _ _ _⟩) hh9 0 rfl (.inr rfl) rfl (by kernel_rfl) (by kernel_rfl) (vagg (vflats rfl))
    · refine o_v2 (.bool (decide ((lv : Int) > (4 : Int)))) (.bool false) (congrArg AV.bool (decide_eq_false (h4))) (by kernel_rfl) ?_
      refine WOps.e0 (Th_n (W.condF (by kernel_rfl) (W.skip (Th_n (W.seq (W.seq (W.region ?_)))))))
      refine o_ld hh5 1 0 (.agg ([.int .i64 lv, .bool ng, a, b])) rfl rfl (by kernel_rfl) ?_
      refine o_call (ys := [.agg ([.int .i64 lv, .bool ng, a, b]), .int .i64 5]) (vcons (vagg (vflats (fc rfl (fc rfl (fc f_a (fc f_b fn0)))))) (vcons (vflat rfl) vnil)) (canonical_spec hp' (by omega) (by omega)) rfl (by kernel_rfl) fun z Oz hz => ?_
      obtain ⟨c, rfl, hc⟩ := hz
      refine WOps.e0 (Th_n ?_)
      cases c with
      | true =>
        refine W.condT (by kernel_rfl) (W.seq (W.region ?_))
        refine o_ld hh5 1 0 (.agg ([.int .i64 lv, .bool ng, a, b])) rfl rfl (by kernel_rfl) ?_
        have hcv := hc rfl 4 _ _ _ rfl hp'
        refine o_call (ys := [.agg ([.int .i64 lv, .bool ng, a, b])]) (vcons (vagg (vflats (fc rfl (fc rfl (fc f_a (fc f_b fn0)))))) vnil) (copied_spec hcv (by omega) (by omega)) rfl (by kernel_rfl) fun z Oz hz => ?_
        obtain ⟨zc, rfl, hzv⟩ := hz 4 L n hcv
        obtain ⟨lv2, ng2, a2, e2, rfl, ha2, f_e2⟩ := hzv.pv
        have f_a2 := nv_flat ha2
        refine o_st hh5 0 0 (.agg ([.int .i64 lv2, .bool ng2, a2, e2])) [.int .i64 lv2, .bool ng2, a2, e2] rfl rfl (oc1 rfl (oc1 rfl (oc1 (one_of_flat f_a2) (oc1 (one_of_flat f_e2) oc0)))) (by kernel_rfl) fun H10 hh11 => ?_
        refine WOps.e0 (Th_n (W.ret (Th_r ?_)))
        exact ret_c (r' := .agg ([.int .i64 lv2, .bool ng2, a2, e2])) (id := q2) (off := 0) (r := .agg ([.int .i64 lv2, .bool ng2, a2, e2])) (⟨_, rfl, CV.mono hL' (by simp only [nN]; omega) hzv⟩) hh11 0 rfl (.inr rfl) rfl (by kernel_rfl) (by kernel_rfl) (vagg (vflats (fc rfl (fc rfl (fc f_a2 (fc f_e2 fn0))))))
      | false =>
        refine W.condF (by kernel_rfl) (W.skip (Th_n (W.seq (W.region ?_))))
        refine WOps.run dr2 [(21, .agg ([.int .i64 0, .bool false, .nilsl, .nilsl])), (22, .ptr q1 0)] (by kernel_rfl) ?_
        refine o_ld hh5 1 0 (.int .i64 lv) rfl rfl (by kernel_rfl) ?_
        refine o_call (ys := [.int .i64 lv]) (vflats rfl) (var_con lv) rfl (by kernel_rfl) fun z Oz hz => ?_
        obtain ⟨zc, rfl, hx⟩ := hz
        obtain ⟨lv4, ng4, a4, e4, rfl, ha4, f_e4⟩ := hx.pv
        have f_a4 := nv_flat ha4
        refine o_al hh5 (.agg ([.int .i64 0, .bool false, .nilsl, .nilsl])) rfl (by kernel_rfl) fun q3 H12 hh13 => ?_
        refine o_al hh13 (.agg ([.int .i64 0, .bool false, .nilsl, .nilsl])) rfl (by kernel_rfl) fun q4 H14 hh15 => ?_
        refine o_st hh15 1 0 (.agg ([.int .i64 0, .bool false, .nilsl, .nilsl])) [.int .i64 0, .bool false, .nilsl, .nilsl] rfl rfl rfl (by kernel_rfl) fun H16 hh17 => ?_
        refine o_st hh17 0 0 (.agg ([.int .i64 lv4, .bool ng4, a4, e4])) [.int .i64 lv4, .bool ng4, a4, e4] rfl rfl (oc1 rfl (oc1 rfl (oc1 (one_of_flat f_a4) (oc1 (one_of_flat f_e4) oc0)))) (by kernel_rfl) fun H18 hh19 => ?_
        refine WOps.e0 (Th_n (W.seq (W.seq (W.region ?_))))
        refine WOps.run dr1 [(25, .ptr q1 3)] (by kernel_rfl) ?_
        refine o_ld hh19 3 3 (b) rfl rfl (by kernel_rfl) ?_
        refine o_vb (.int .i64 (lb : Nat)) (flen _) (by kernel_rfl) ?_
        refine o_v2 (.int .i64 (IntKind.i64.wrap (((lb : Nat) : Int) - (1 : Int)))) (.int .i64 (((lb : Int) - 1))) (congrArg (AV.int .i64) (by rw [wrapN] <;> omega)) (by kernel_rfl) ?_
        refine WOps.run dr1 [(5, .int .i64 ((lb : Int) - 1))] (by kernel_rfl) ?_
        refine WOps.e0 (Th_n (W.blk ?_))
        generalize hK : 4 * nL (d + 1) L + 3 = K
        have hKL : lb * K ≤ L * K := Nat.mul_le_mul_right K hlb
        have hnN1 : nN (d + 1) L n = nN d L n + n + 2 + L * K := by simp only [nN, hK]
        have hnL1 : nL (d + 1) L = nL d L + 2 * L + 2 := rfl
        have hp1 := nL_pos d L
        refine W.lp (fun T u T1 H1 => ∃ (t29 t30 t31 t32 t33 t34 t35 t36 t37 t38 t39 t40 t41 t42 : AV) (i : Int) (j : Nat) (lv3 : Int) (ng3 : Bool) (a3 e3 : AV), ups T [(5, .int .i64 i), (29, t29), (30, t30), (31, t31), (32, t32), (33, t33), (34, t34), (35, t35), (36, t36), (37, t37), (38, t38), (39, t39), (40, t40), (41, t41), (42, t42)] = T1 ∧ Has H1 [(q1, .cells ([.int .i64 lv, .bool ng, a, b])), (q2, .cells ([.int .i64 0, .bool false, .nilsl, .nilsl])), (q3, .cells ([.int .i64 lv3, .bool ng3, a3, e3])), (q4, .cells ([.int .i64 lv4, .bool ng4, a4, e4]))] ∧ i = (u : Int) - 1 ∧ j + u = lb ∧ CV 4 (nL d L + 2 * j) (nN d L n + j * K) [.int .i64 lv3, .bool ng3, a3, e3]) (lb) ⟨.undef, .undef, .undef, .undef, .undef, .undef, .undef, .undef, .undef, .undef, .undef, .undef, .undef, .undef, (lb : Int) - 1, 0, 0, false, .nilsl, .nilsl, by kernel_rfl, hh19.pick [3, 2, 1, 0] (by decide), rfl, Nat.zero_add _, zero_cv _ _ _⟩ ?_
        rintro u _ H20 ⟨t29, t30, t31, t32, t33, t34, t35, t36, t37, t38, t39, t40, t41, t42, i, j, lv3, ng3, a3, e3, rfl, hh21, hi, hj, ho⟩
        refine W.seq (W.seq (W.region ?_))
        refine WOps.run dr1 [(29, .int .i64 i)] (by kernel_rfl) ?_
        obtain ⟨f_a3, f_e3, ha3⟩ := ho.fl
        have hjK : j * K ≤ L * K := Nat.mul_le_mul_right K (by omega)
        by_cases hu : u = 0
        · refine o_v2 (.bool (decide ((i : Int) ≥ (0 : Int)))) (.bool false) (congrArg AV.bool (decide_eq_false (by omega))) (by kernel_rfl) ?_
          refine WOps.e0 (Th_n (W.condF (by kernel_rfl) (W.exit (Th_e (Th_e (Bk_s (Th_n (W.seq (W.region ?_)))))))))
          refine o_ld hh21 2 0 (.agg ([.int .i64 lv3, .bool ng3, a3, e3])) rfl rfl (by kernel_rfl) ?_
          refine o_st hh21 1 0 (.agg ([.int .i64 lv3, .bool ng3, a3, e3])) [.int .i64 lv3, .bool ng3, a3, e3] rfl rfl (oc1 rfl (oc1 rfl (oc1 (one_of_flat f_a3) (oc1 (one_of_flat f_e3) oc0)))) (by kernel_rfl) fun H22 hh23 => ?_
          refine WOps.e0 (Th_n (W.ret ?_))
          exact ret_c (r' := .agg ([.int .i64 lv3, .bool ng3, a3, e3])) (id := q2) (off := 0) (r := .agg ([.int .i64 lv3, .bool ng3, a3, e3])) (⟨_, rfl, CV.mono (by omega) (by omega) ho⟩) hh23 1 rfl (.inr rfl) rfl (by kernel_rfl) (by kernel_rfl) (vagg (vflats (fc rfl (fc rfl (fc f_a3 (fc f_e3 fn0))))))
        · refine o_v2 (.bool (decide ((i : Int) ≥ (0 : Int)))) (.bool true) (congrArg AV.bool (decide_eq_true (by omega))) (by kernel_rfl) ?_
          refine WOps.e0 (Th_n (W.condT (by kernel_rfl) (W.skip (Th_n (W.seq (W.blk ?_))))))
          obtain ⟨v, rfl⟩ : ∃ v : Nat, i = (v : Nat) := ⟨u - 1, by omega⟩
          obtain ⟨pp, cs, hpp, hld, hcs, hcc⟩ := fget v (by omega)
          obtain ⟨lv5, ng5, a5, e5, rfl, ha5, f_e5⟩ := hcs.pv
          have f_a5 := nv_flat ha5
          refine W.rl false hh21 [0, 1, 2, 3] (by decide) _ rfl (by kernel_rfl) ?_
          refine d_ld hh21 [0, 1, 2, 3] (by decide) rfl 2 0 (.agg ([.int .i64 lv3, .bool ng3, a3, e3])) rfl rfl (by kernel_rfl) ?_
          refine d_ld hh21 [0, 1, 2, 3] (by decide) rfl 3 0 (.agg ([.int .i64 lv4, .bool ng4, a4, e4])) rfl rfl (by kernel_rfl) ?_
          refine d_call (ys := [.agg ([.int .i64 lv3, .bool ng3, a3, e3]), .agg ([.int .i64 lv4, .bool ng4, a4, e4])]) hh21 [0, 1, 2, 3] (by decide) rfl (vcons (vagg (vflats (fc rfl (fc rfl (fc f_a3 (fc f_e3 fn0)))))) (vcons (vagg (vflats (fc rfl (fc rfl (fc f_a4 (fc f_e4 fn0)))))) vnil)) (pmul_spec ho hx (by omega) (by omega) (by omega) (by omega) (by omega) (by omega) (by omega)) rfl (by kernel_rfl) fun z Oz hz => ?_
          obtain ⟨zc, rfl, hzv⟩ := hz 4 _ _ _ _ ho hx (by omega) (by omega)
          obtain ⟨lv6, ng6, a6, e6, rfl, ha6, f_e6⟩ := hzv.pv
          have f_a6 := nv_flat ha6
          refine WD.run dr1 [(36, .ptr q1 3)] (by kernel_rfl) ?_
          refine d_ld hh21 [0, 1, 2, 3] (by decide) rfl 0 3 (b) rfl rfl (by kernel_rfl) ?_
          refine WD.run dr1 [(38, .int .i64 (v : Nat))] (by kernel_rfl) ?_
          refine d_vk (pp) (hpp) (by kernel_rfl) ?_
          refine d_vl (.agg ([.int .i64 lv5, .bool ng5, a5, e5])) (hld) (by kernel_rfl) ?_
          refine d_call (ys := [.agg ([.int .i64 lv5, .bool ng5, a5, e5])]) hh21 [0, 1, 2, 3] (by decide) rfl (vcons (vagg (vflats (fc rfl (fc rfl (fc f_a5 (fc f_e5 fn0)))))) vnil) (pNormal_spec_of hcs fun d' L' n' g1 g2 g3 g4 => ih d' (by omega) L' n' _ g4 (by omega) (Nat.le_trans (nL_mono (d' := d + 1) (by omega) g2) hnL) (Nat.le_trans (nN_mono (d' := d + 1) (by omega) g2 g3) hnN)) rfl (by kernel_rfl) fun y Oy hy => ?_
          obtain ⟨yc, rfl, hyv⟩ := hy d L n hcs
          obtain ⟨lv7, ng7, a7, e7, rfl, ha7, f_e7⟩ := hyv.pv
          have f_a7 := nv_flat ha7
          have hz' := CV.mono (l := 4) (Nat.le_refl (nL d L + 2 * j + 2)) (Nat.le_refl (nN d L n + j * K + 2 + 4 * (nL d L + 2 * j))) hzv
          have hy' := CV.mono (l := 4) (show nL d L ≤ nL d L + 2 * j + 2 by omega) (show nN d L n ≤ nN d L n + j * K + 2 + 4 * (nL d L + 2 * j) by omega) hyv
          refine d_call (ys := [.agg ([.int .i64 lv6, .bool ng6, a6, e6]), .agg ([.int .i64 lv7, .bool ng7, a7, e7])]) hh21 [0, 1, 2, 3] (by decide) rfl (vcons (vagg (vflats (fc rfl (fc rfl (fc f_a6 (fc f_e6 fn0)))))) (vcons (vagg (vflats (fc rfl (fc rfl (fc f_a7 (fc f_e7 fn0)))))) vnil)) (padd_spec hz' hy' (by omega) (by omega) (by omega)) rfl (by kernel_rfl) fun w Ow hw => ?_
          obtain ⟨wc, rfl, hwv⟩ := hw 4 _ _ hz' hy' (by omega)
          obtain ⟨lv8, ng8, a8, e8, rfl, ha8, f_e8⟩ := hwv.pv
          have f_a8 := nv_flat ha8
          refine d_last .undef (m_st (P := Tryz.prog) (t := 29) hh21 2 0 (.agg ([.int .i64 lv8, .bool ng8, a8, e8])) [.int .i64 lv8, .bool ng8, a8, e8] rfl [.int .i64 lv8, .bool ng8, a8, e8] rfl (oc1 rfl (oc1 rfl (oc1 (one_of_flat f_a8) (oc1 (one_of_flat f_e8) oc0)))) (by kernel_rfl)) (by kernel_rfl) fun H24 hh25 => ?_
          refine WD.e0 (Bk_n (Th_n (W.region ?_)))
          refine WOps.run dr1 [(31, .int .i64 (v : Nat))] (by kernel_rfl) ?_
          refine o_v2 (.int .i64 (IntKind.i64.wrap (((v : Nat) : Int) - (1 : Int)))) (.int .i64 (((v : Int) - 1))) (congrArg (AV.int .i64) (by rw [wrapN] <;> omega)) (by kernel_rfl) ?_
          refine WOps.run dr1 [(5, .int .i64 ((v : Int) - 1))] (by kernel_rfl) ?_
          refine WOps.e0 (Th_n ?_)
          have hsucc : (j + 1) * K = j * K + K := Nat.succ_mul j K
          exact ⟨u - 1, by omega, .int .i64 (v : Nat), .bool true, .int .i64 (v : Nat), .int .i64 ((v : Int) - 1), .agg ([.int .i64 lv3, .bool ng3, a3, e3]), .agg ([.int .i64 lv4, .bool ng4, a4, e4]), .agg ([.int .i64 lv6, .bool ng6, a6, e6]), .ptr q1 3, b, .int .i64 (v : Nat), pp, .agg ([.int .i64 lv5, .bool ng5, a5, e5]), .agg ([.int .i64 lv7, .bool ng7, a7, e7]), .agg ([.int .i64 lv8, .bool ng8, a8, e8]), (v : Int) - 1, j + 1, lv8, ng8, a8, e8, by kernel_rfl, hh25.pick [0, 1, 2, 3] (by decide), by omega, by omega, CV.mono (by omega) (by omega) hwv⟩

theorem pNormal_spec {d L n : Nat} {p : List AV} (hp : RV d L n p) (hL : L ≤ 2 ^ 20) (h1 : nL d L ≤ 2 ^ 30) (h2 : nN d L n ≤ 2 ^ 30) : Con 40 [.agg p] (Spec 40 [.agg p]) :=
  pNormal_spec_of hp fun d' L' n' g1 g2 g3 g4 => pNormal_con d' L' n' p g4 (by omega) (Nat.le_trans (nL_mono g1 g2) h1) (Nat.le_trans (nN_mono g1 g2 g3) h2)

end Go.AX

/- AX, part 48: data that came in: lists, polynomials, matrices, prenex forms; what is said of the functions on them. -/
set_option linter.unusedVariables false
set_option linter.unusedSimpArgs false
set_option maxRecDepth 4000
set_option maxHeartbeats 4000000
namespace Go.AX
open Go Go.RowKit Go.Proofs
attribute [local irreducible] WOps WD W

/-! ### Lists that are not written any more -/

/-- A list of len elements of k cells each; P says of the i-th what it is. -/
def LS (k : Nat) (P : Nat → List AV → Prop) (a : AV) (len : Nat) : Prop :=
  (a = .nilsl ∧ len = 0) ∨ ∃ cells cap, a = .lst cells len cap ∧ cells.length = len * k ∧ ∀ i, i < len → P i ((cells.drop (i * k)).take k)

theorem LS.flat {k : Nat} {P : Nat → List AV → Prop} {a : AV} {len : Nat} (h : LS k P a len) : isFlat a = true := by
  rcases h with ⟨rfl, _⟩ | ⟨cells, cap, rfl, _⟩ <;> rfl

theorem LS.imp {k : Nat} {P Q : Nat → List AV → Prop} {a : AV} {len : Nat} (h : LS k P a len) (hpq : ∀ i c, i < len → P i c → Q i c) : LS k Q a len := by
  rcases h with h | ⟨cells, cap, e, h1, h2⟩
  · exact .inl h
  · exact .inr ⟨cells, cap, e, h1, fun i hi => hpq _ _ hi (h2 i hi)⟩

theorem LS.and {k : Nat} {P Q : Nat → List AV → Prop} {a : AV} {len : Nat} (h : LS k P a len) (h' : LS k Q a len) : LS k (fun i c => P i c ∧ Q i c) a len := by
  rcases h with h | ⟨cells, cap, e, h1, h2⟩
  · exact .inl h
  · rcases h' with ⟨e', _⟩ | ⟨cells', cap', e', g1, g2⟩
    · rw [e] at e'; simp at e'
    · rw [e] at e'
      simp at e'
      obtain ⟨rfl, rfl⟩ := e'
      exact .inr ⟨cells, cap, e, h1, fun i hi => ⟨h2 i hi, g2 i hi⟩⟩

theorem LS.leq {k : Nat} {P Q : Nat → List AV → Prop} {a : AV} {len len' : Nat} (h : LS k P a len) (h' : LS k Q a len') : len = len' := by
  rcases h with ⟨rfl, rfl⟩ | ⟨cells, cap, rfl, h1, h2⟩
  · rcases h' with ⟨_, rfl⟩ | ⟨cells', cap', e', _⟩
    · rfl
    · simp at e'
  · rcases h' with ⟨e', _⟩ | ⟨cells', cap', e', _⟩
    · simp at e'
    · simp at e'; exact e'.2.1

theorem LS.len {k : Nat} {P : Nat → List AV → Prop} {a : AV} {len : Nat} (h : LS k P a len) {t e : TypeId} (hu : Tryz.prog.underlying t = some (.slice e)) (H : Heap) : builtinA Tryz.prog .len [t] H [a] = some (.int .i64 (len : Nat), H) := by
  rcases h with ⟨rfl, rfl⟩ | ⟨cells, cap, rfl, _⟩ <;> simp [builtinA, hu]

theorem LS.get {k : Nat} {P : Nat → List AV → Prop} {a : AV} {len : Nat} (h : LS k P a len) {t e : TypeId} (hu : Tryz.prog.underlying t = some (.slice e)) (hs : sizeT Tryz.prog e = some k) (ha : isAggT Tryz.prog e = some true) {i : Nat} (hi : i < len) :
    ∃ p cs, indexAddrA Tryz.prog t a i = some p ∧ (∀ H, loadA Tryz.prog H e p = some (.agg cs)) ∧ P i cs := by
  rcases h with ⟨_, rfl⟩ | ⟨cells, cap, rfl, h1, h2⟩
  · omega
  · have hk : (i + 1) * k ≤ len * k := Nat.mul_le_mul_right k hi
    rw [Nat.add_mul, Nat.one_mul] at hk
    have hle : i * k ≤ cells.length := by omega
    refine ⟨.cptr (cells.drop (i * k)), (cells.drop (i * k)).take k, ?_, fun H => ?_, h2 i hi⟩
    · simp [indexAddrA, hu, hs, hi, hle]
    · have : 0 + k ≤ (cells.drop (i * k)).length := by rw [List.length_drop]; omega
      simp only [loadA, readAt, ha, hs]
      rw [if_pos this, List.drop_zero]

theorem LS.get1 {P : Nat → List AV → Prop} {a : AV} {len : Nat} (h : LS 1 P a len) {t e : TypeId} (hu : Tryz.prog.underlying t = some (.slice e)) (hs : sizeT Tryz.prog e = some 1) (ha : isAggT Tryz.prog e = some false) {i : Nat} (hi : i < len) :
    ∃ p v, indexAddrA Tryz.prog t a i = some p ∧ (∀ H, loadA Tryz.prog H e p = some v) ∧ P i [v] := by
  rcases h with ⟨_, rfl⟩ | ⟨cells, cap, rfl, h1, h2⟩
  · omega
  · have hlt : i < cells.length := by omega
    have hp := h2 i hi
    have e1 : (cells.drop (i * 1)).take 1 = [cells[i]] := by rw [Nat.mul_one, List.take_one, List.head?_drop, List.getElem?_eq_getElem hlt]; rfl
    rw [e1] at hp
    refine ⟨.cptr (cells.drop (i * 1)), cells[i], ?_, fun H => ?_, hp⟩
    · have hle : i * 1 ≤ cells.length := by omega
      simp [indexAddrA, hu, hs, hi]
      omega
    · simp only [loadA, readAt, ha]
      rw [Nat.mul_one]
      simp [hlt]

/-- The elements of a list. -/
def elems (k : Nat) : AV → List (List AV)
  | .lst cells len _ => (List.range len).map fun i => (cells.drop (i * k)).take k
  | _ => []

theorem LS.el {k : Nat} {P : Nat → List AV → Prop} {a : AV} {len : Nat} (h : LS k P a len) : (elems k a).length = len ∧ ∀ (i : Nat) x, (elems k a)[i]? = some x → P i x := by
  rcases h with ⟨rfl, rfl⟩ | ⟨cells, cap, rfl, h1, h2⟩
  · exact ⟨rfl, fun i x hx => by simp [elems] at hx⟩
  · refine ⟨by simp [elems], fun i x hx => ?_⟩
    simp only [elems, List.getElem?_map] at hx
    by_cases hi : i < len
    · rw [List.getElem?_range hi] at hx
      simp at hx
      rw [← hx]
      exact h2 i hi
    · rw [List.getElem?_eq_none (by simp; omega)] at hx
      simp at hx

theorem LS.of_el {k : Nat} {P Q : Nat → List AV → Prop} {a : AV} {len : Nat} (h : LS k P a len) (hq : ∀ (i : Nat) x, i < len → (elems k a)[i]? = some x → Q i x) : LS k Q a len := by
  rcases h with h | ⟨cells, cap, rfl, h1, h2⟩
  · exact .inl h
  · exact .inr ⟨cells, cap, rfl, h1, fun i hi => hq i _ hi (by simp only [elems, List.getElem?_map]; rw [List.getElem?_range hi]; rfl)⟩

theorem LS.gete {k : Nat} {P : Nat → List AV → Prop} {a : AV} {len : Nat} (h : LS k P a len) {t e : TypeId} (hu : Tryz.prog.underlying t = some (.slice e)) (hs : sizeT Tryz.prog e = some k) (ha : isAggT Tryz.prog e = some true) {i : Nat} (hi : i < len) :
    ∃ p cs, indexAddrA Tryz.prog t a i = some p ∧ (∀ H, loadA Tryz.prog H e p = some (.agg cs)) ∧ P i cs ∧ (elems k a)[i]? = some cs := by
  have h2 : LS k (fun i c => P i c ∧ (elems k a)[i]? = some c) a len := h.of_el fun i x hi hx => ⟨h.el.2 i x hx, hx⟩
  exact h2.get hu hs ha hi

theorem LS.gete1 {P : Nat → List AV → Prop} {a : AV} {len : Nat} (h : LS 1 P a len) {t e : TypeId} (hu : Tryz.prog.underlying t = some (.slice e)) (hs : sizeT Tryz.prog e = some 1) (ha : isAggT Tryz.prog e = some false) {i : Nat} (hi : i < len) :
    ∃ p v, indexAddrA Tryz.prog t a i = some p ∧ (∀ H, loadA Tryz.prog H e p = some v) ∧ P i [v] ∧ (elems 1 a)[i]? = some [v] := by
  have h2 : LS 1 (fun i c => P i c ∧ (elems 1 a)[i]? = some c) a len := h.of_el fun i x hi hx => ⟨h.el.2 i x hx, hx⟩
  exact h2.get1 hu hs ha hi

theorem LS.rv {d L n lb : Nat} {b : AV} (h : LS 4 (fun _ x => RV d L n x) b lb) (hl : lb ≤ L) : b = .nilsl ∨ ∃ cells len cap, b = .lst cells len cap ∧ cells.length = len * 4 ∧ len ≤ L ∧ ∀ i, i < len → RV d L n ((cells.drop (i * 4)).take 4) := by
  rcases h with ⟨rfl, _⟩ | ⟨cells, cap, rfl, h1, h2⟩
  · exact .inl rfl
  · exact .inr ⟨cells, lb, cap, rfl, h1, hl, h2⟩

theorem P30 : Tryz.prog.underlying 30 = some (TypeDesc.slice 32) := by kernel_rfl
theorem P47 : Tryz.prog.underlying 47 = some (TypeDesc.slice 4) := by kernel_rfl
theorem P48 : Tryz.prog.underlying 48 = some (TypeDesc.slice 9) := by kernel_rfl
theorem size32 : sizeT Tryz.prog 32 = some 7 := by kernel_rfl
theorem agg32 : isAggT Tryz.prog 32 = some true := by kernel_rfl
theorem size9 : sizeT Tryz.prog 9 = some 1 := by kernel_rfl
theorem agg9 : isAggT Tryz.prog 9 = some false := by kernel_rfl

/-! ### Data that came in -/

def WdI (_ : Nat) (c : List AV) : Prop := Wd c

def TPv (P : Nat → List AV → Prop) (cs : List AV) : Prop := ∃ lv ng a b la lb, cs = [.int .i64 lv, .bool ng, a, b] ∧ LS 1 WdI a la ∧ la ≤ 9223372036854775807 ∧ LS 4 P b lb ∧ lb ≤ 9223372036854775807

/-- A polynomial, as deep as it is looked at. -/
def TP : Nat → List AV → Prop
  | 0 => TPv fun _ _ => True
  | d + 1 => TPv fun _ => TP d

def TMv (P : Nat → List AV → Prop) (cs : List AV) : Prop := ∃ kd rl lv ng a b kids lk, cs = [.int .i64 kd, .int .i64 rl, .int .i64 lv, .bool ng, a, b, kids] ∧ TP 6 [.int .i64 lv, .bool ng, a, b] ∧ LS 7 P kids lk ∧ lk ≤ 9223372036854775807

/-- A matrix, as deep as it is looked at. -/
def TM : Nat → List AV → Prop
  | 0 => TMv fun _ _ => True
  | d + 1 => TMv fun _ => TM d

def IsStr (c : List AV) : Prop := ∃ s, c = [.str s] ∧ s.size ≤ 9223372036854775807

/-- A prenex form. -/
def TF (cs : List AV) : Prop := ∃ fr al nm m la ln, cs = .int .i64 fr :: al :: nm :: m ∧ (-9223372036854775808 ≤ fr ∧ fr ≤ 9223372036854775807) ∧ LS 1 (fun _ c => ∃ b, c = [.bool b]) al la ∧ la ≤ 9223372036854775807 ∧ LS 1 (fun _ c => IsStr c) nm ln ∧ ln ≤ 9223372036854775807 ∧ TM 12 m

theorem NV.ls {n : Nat} {a : AV} (h : NV n a) : ∃ la, la ≤ n ∧ LS 1 WdI a la := by
  rcases h with rfl | ⟨cells, len, cap, rfl, h1, h2, h3⟩
  · exact ⟨0, Nat.zero_le _, .inl ⟨rfl, rfl⟩⟩
  · exact ⟨len, h2, .inr ⟨cells, cap, rfl, h1, h3⟩⟩

theorem LS.nv {n la : Nat} {a : AV} (h : LS 1 WdI a la) (hn : la ≤ n) : NV n a := by
  rcases h with ⟨rfl, _⟩ | ⟨cells, cap, rfl, h1, h2⟩
  · exact .inl rfl
  · exact .inr ⟨cells, la, cap, rfl, h1, hn, h2⟩

/-- A polynomial of known bounds is data. -/
theorem RV.tp {L n : Nat} (hL : L ≤ 9223372036854775807) (hn : n ≤ 9223372036854775807) : ∀ {d : Nat} {cs : List AV}, RV d L n cs → ∀ e, TP e cs
  | 0, _, h, _ => h.elim
  | d + 1, cs, ⟨lv, ng, a, b, e0, h2, h3⟩, e => by
    obtain ⟨la, hla, hl⟩ := h2.ls
    have key : ∀ P : Nat → List AV → Prop, (∀ i c, RV d L n c → P i c) → TPv P cs := by
      intro P hP
      rcases h3 with rfl | ⟨cells, len, cap, rfl, c1, c2, c3⟩
      · exact ⟨lv, ng, a, .nilsl, la, 0, e0, hl, by omega, .inl ⟨rfl, rfl⟩, by omega⟩
      · exact ⟨lv, ng, a, _, la, len, e0, hl, by omega, .inr ⟨cells, cap, rfl, c1, fun i hi => hP _ _ (c3 i hi)⟩, by omega⟩
    cases e with
    | zero => exact key _ fun _ _ _ => trivial
    | succ e => exact key _ fun _ c hc => RV.tp hL hn hc e

/-! ### What is known behind the guards -/

def sumN (f : Nat → Nat) : Nat → Nat
  | 0 => 0
  | n + 1 => sumN f n + f n

theorem sumN_congr {f g : Nat → Nat} : ∀ {n : Nat}, (∀ i, i < n → f i = g i) → sumN f n = sumN g n
  | 0, _ => rfl
  | n + 1, h => by simp only [sumN]; rw [sumN_congr fun i hi => h i (by omega), h n (by omega)]

/-- A matrix of at most N nodes, in at most d levels. -/
def MV : Nat → Nat → List AV → Prop
  | 0, _, _ => False
  | d + 1, N, cs => ∃ kd rl lv ng a b kids lk f, cs = [.int .i64 kd, .int .i64 rl, .int .i64 lv, .bool ng, a, b, kids] ∧ RV 6 12 4 [.int .i64 lv, .bool ng, a, b] ∧ LS 7 (fun i c => MV d (f i) c) kids lk ∧ sumN f lk + 1 ≤ N

theorem MV.mono : ∀ {d N N' : Nat} {cs : List AV}, MV d N cs → N ≤ N' → MV d N' cs
  | 0, _, _, _, h, _ => h.elim
  | d + 1, N, N', cs, ⟨kd, rl, lv, ng, a, b, kids, lk, f, h1, h2, h3, h4⟩, h => ⟨kd, rl, lv, ng, a, b, kids, lk, f, h1, h2, h3, by omega⟩

/-- A prenex form of a size that is looked at. -/
def FF (N : Nat) (cs : List AV) : Prop := ∃ fr al nm m la ln, cs = .int .i64 fr :: al :: nm :: m ∧ (-9223372036854775808 ≤ fr ∧ fr ≤ 9223372036854775807) ∧ LS 1 (fun _ c => ∃ b, c = [.bool b]) al la ∧ la ≤ 8 ∧ LS 1 (fun _ c => ∃ s, c = [.str s] ∧ s.size ≤ 40) nm ln ∧ ln ≤ 8 ∧ MV 12 N m

/-! ### Lists that are being gathered -/

/-- A list that is grown by append: nil, or a block of its own. -/
def Gth (k : Nat) (P : Nat → List AV → Prop) (K : AV) (n : Nat) (ex : Kn) : Prop :=
  (K = .nilsl ∧ n = 0 ∧ ex = []) ∨ ∃ id cells, K = .sl id 0 n k none ∧ ex = [(id, .cells cells)] ∧ cells.length = n * k ∧ cells.all isFlat = true ∧ ∀ i, i < n → P i ((cells.drop (i * k)).take k)

theorem Gth.one {k : Nat} {P : Nat → List AV → Prop} {K : AV} {n : Nat} {ex : Kn} (h : Gth k P K n ex) : oneCell K = true := by
  rcases h with ⟨rfl, _⟩ | ⟨id, cells, rfl, _⟩ <;> rfl
theorem Gth.cells {k : Nat} {P : Nat → List AV → Prop} {K : AV} {n : Nat} {ex : Kn} (h : Gth k P K n ex) : K.cells = [K] := by
  rcases h with ⟨rfl, _⟩ | ⟨id, cells, rfl, _⟩ <;> rfl

theorem Has.split {H : Heap} {L0 ex : Kn} (h : Has H (L0 ++ ex)) : Has H L0 := by
  refine ⟨fun k id b hk => h.get k id b (by rw [List.getElem?_append_left (List.getElem?_eq_some_iff.1 hk).1]; exact hk), fun k k' id id' b b' h1 h2 hne => h.ne k k' id id' b b' ?_ ?_ hne⟩
  · rw [List.getElem?_append_left (List.getElem?_eq_some_iff.1 h1).1]; exact h1
  · rw [List.getElem?_append_left (List.getElem?_eq_some_iff.1 h2).1]; exact h2

/-- What it is handed out as. -/
theorem Gth.view {k : Nat} {P : Nat → List AV → Prop} {K : AV} {n : Nat} {ex : Kn} (L0 : Kn) {H : Heap} (h : Gth k P K n ex) (hH : Has H (L0 ++ ex)) : ∃ K' ids, (∀ m, AX.view H (m + 2) K = some (K', ids)) ∧ LS k P K' n ∧ isFlat K' = true := by
  rcases h with ⟨rfl, rfl, rfl⟩ | ⟨id, cells, rfl, rfl, h1, h2, h3⟩
  · exact ⟨.nilsl, [], fun m => rfl, .inl ⟨rfl, rfl⟩, rfl⟩
  · refine ⟨.lst cells n none, [id] ++ [], fun m => ?_, .inr ⟨cells, none, rfl, h1, h3⟩, rfl⟩
    have hk : (L0 ++ [(id, Blk.cells cells)])[L0.length]? = some (id, .cells cells) := by simp
    have ht : (cells.drop 0).take (n * k) = cells := by rw [List.drop_zero, List.take_of_length_le (by omega)]
    have h0 : AX.view H (m + 2) (.sl id 0 n k none) = some (.lst ((cells.drop 0).take (n * k)) n none, id :: []) := vsl hH hk (by omega) (by rw [ht]; exact vflats (n := m) h2)
    rw [ht] at h0
    exact h0

theorem Has.snoc {H : Heap} {L0 : Kn} {x : Nat × Blk} (h : Has H (x :: L0)) : Has H (L0 ++ [x]) := by
  have conv : ∀ (k : Nat) y, (L0 ++ [x])[k]? = some y → ∃ j : Nat, (x :: L0)[j]? = some y ∧ (k < L0.length ∧ j = k + 1 ∨ k = L0.length ∧ j = 0) := by
    intro k y hk
    by_cases hkl : k < L0.length
    · rw [List.getElem?_append_left hkl] at hk
      exact ⟨k + 1, by simpa using hk, .inl ⟨hkl, rfl⟩⟩
    · rw [List.getElem?_append_right (by omega)] at hk
      have hk0 : k - L0.length = 0 := by
        rcases Nat.eq_zero_or_pos (k - L0.length) with h | h
        · exact h
        · rw [List.getElem?_eq_none (by simp; omega)] at hk; simp at hk
      rw [hk0] at hk
      exact ⟨0, by simpa using hk, .inr ⟨by omega, rfl⟩⟩
  refine ⟨fun k id b hk => ?_, fun k k' id id' b b' e1 e2 hne => ?_⟩
  · obtain ⟨j, f1, _⟩ := conv k _ hk
    exact h.get j id b f1
  · obtain ⟨j, f1, f2⟩ := conv k _ e1
    obtain ⟨j', f3, f4⟩ := conv k' _ e2
    exact h.ne j j' id id' b b' f1 f3 (by omega)

theorem grp_app {k : Nat} {P : Nat → List AV → Prop} {xs ys : List AV} {n m : Nat} (h1 : xs.length = n * k) (h2 : ys.length = m * k) (hx : ∀ i, i < n → P i ((xs.drop (i * k)).take k)) (hy : ∀ i, i < m → P (n + i) ((ys.drop (i * k)).take k)) :
    (xs ++ ys).length = (n + m) * k ∧ ∀ i, i < n + m → P i (((xs ++ ys).drop (i * k)).take k) := by
  refine ⟨by rw [List.length_append, h1, h2, Nat.add_mul], fun i hi => ?_⟩
  by_cases hn : i < n
  · have hk : (i + 1) * k ≤ n * k := Nat.mul_le_mul_right k hn
    rw [Nat.add_mul, Nat.one_mul] at hk
    rw [List.drop_append_of_le_length (by omega), List.take_append_of_le_length (by rw [List.length_drop]; omega)]
    exact hx i hn
  · obtain ⟨j, rfl⟩ := Nat.exists_eq_add_of_le (Nat.le_of_not_lt hn)
    have e : (n + j) * k = xs.length + j * k := by rw [h1, Nat.add_mul]
    rw [e, List.drop_append, List.drop_eq_nil_of_le (by omega), List.nil_append, Nat.add_sub_cancel_left]
    exact hy j (by omega)

theorem gth_new {k : Nat} {P : Nat → List AV → Prop} {K x : AV} {n m : Nat} {ex L0 : Kn} {H : Heap} {t e : TypeId} {bb : Nat} {new : List AV} (g : Gth k P K n ex) (hH : Has H (L0 ++ ex)) (hu : Tryz.prog.underlying t = some (.slice e)) (hs : sizeT Tryz.prog e = some k) (hb : bytesT Tryz.prog e = some bb) (hz : (zeroT Tryz.prog e).all (fun z => z.cells.length != k) = false)
    (hbb : 0 < bb) (hlen : lenA x = some m) (hcells : cellsOf H k m x = some new) (hm : 0 < m) (hnl : new.length = m * k) (hfl : new.all isFlat = true) (hP : ∀ j, j < m → P (n + j) ((new.drop (j * k)).take k)) (hroom : (n + m) * bb ≤ roomA) :
    ∃ K' ex', (∃ H', appendA Tryz.prog H t K x = some (K', H') ∧ Has H' (L0 ++ ex')) ∧ Gth k P K' (n + m) ex' := by
  have hm0 : ¬ m = 0 := by omega
  have hmb : m * bb ≤ roomA := Nat.le_trans (Nat.mul_le_mul_right bb (by omega)) hroom
  rcases g with ⟨rfl, rfl, rfl⟩ | ⟨id, cells, rfl, rfl, h1, h2, h3⟩
  · refine ⟨.sl H.length 0 m k none, [(H.length, .cells new)], ⟨H ++ [.cells new], ?_, ?_⟩, .inr ⟨H.length, new, by simp, rfl, by simpa using hnl, hfl, by simpa using hP⟩⟩
    · unfold appendA
      simp only [hu, hs, hb, hlen, hcells, of1 hfl, hm0, hz, Bool.not_true, Bool.false_eq_true, if_false, hmb, hbb, decide_true, Bool.and_self, if_true]
    · exact (hH.split.new (.cells new)).snoc
  · have hk0 : (L0 ++ [(id, Blk.cells cells)])[L0.length]? = some (id, .cells cells) := by simp
    have hid := hH.get _ _ _ hk0
    have hold : cellsOf H k n (.sl id 0 n k none) = some cells := by
      simp only [cellsOf, hid]
      rw [if_pos (by omega), List.drop_zero, List.take_of_length_le (by omega)]
    obtain ⟨a1, a2⟩ := grp_app h1 hnl h3 hP
    refine ⟨.sl H.length 0 (n + m) k none, [(H.length, .cells (cells ++ new))], ⟨(H.set id .dead) ++ [.cells (cells ++ new)], ?_, ?_⟩, .inr ⟨H.length, _, rfl, rfl, a1, by rw [List.all_append, h2, hfl]; rfl, a2⟩⟩
    · unfold appendA
      simp only [hu, hs, hb, hlen, hcells, of1 hfl, hm0, hz, Bool.not_true, Bool.false_eq_true, if_false, hroom, hbb, decide_true, Bool.and_self, if_true, hold]
    · have hlen' : (H.set id .dead).length = H.length := by simp
      have hL0 : Has (H.set id .dead) L0 := by
        refine ⟨fun k i b hk => ?_, hH.split.ne⟩
        have hkl := (List.getElem?_eq_some_iff.1 hk).1
        have hk' : (L0 ++ [(id, Blk.cells cells)])[k]? = some (i, b) := by rw [List.getElem?_append_left hkl]; exact hk
        have hne : id ≠ i := hH.ne _ _ _ _ _ _ hk0 hk' (by omega)
        rw [List.getElem?_set_ne hne]
        exact hH.get _ _ _ hk'
      have h := hL0.new (.cells (cells ++ new))
      rw [hlen'] at h
      exact h.snoc

theorem builtin_append {t : TypeId} {e : TypeId} {H : Heap} {K x : AV} (hu : Tryz.prog.underlying t = some (.slice e)) (hx : x = .nilsl ∨ (∃ i o l z c, x = .sl i o l z c) ∨ ∃ cs l c, x = .lst cs l c) : builtinA Tryz.prog .append [t, t] H [K, x] = appendA Tryz.prog H t K x := by
  rcases hx with rfl | ⟨i, o, l, z, c, rfl⟩ | ⟨cs, l, c, rfl⟩ <;> simp [builtinA, hu]

/-- One element more, from a block of its own. -/
theorem gth_push {k : Nat} {P : Nat → List AV → Prop} {K : AV} {n : Nat} {ex : Kn} (L0 : Kn) {H : Heap} {bb : Nat} {cs : List AV} (t e : TypeId) (j : Nat) {idb : Nat} (g : Gth k P K n ex) (hH : Has H (L0 ++ ex)) (hu : Tryz.prog.underlying t = some (.slice e)) (hs : sizeT Tryz.prog e = some k) (hb : bytesT Tryz.prog e = some bb) (hz : (zeroT Tryz.prog e).all (fun z => z.cells.length != k) = false)
    (hj : L0[j]? = some (idb, .cells cs)) (hk : decide (cs.length = k ∧ 0 < bb) = true) (hfl : cs.all isFlat = true) (hP : P n cs) (hroom : (n + 1) * bb ≤ roomA) :
    ∃ K' ex', (∃ H', builtinA Tryz.prog .append [t, t] H [K, .sl idb 0 1 k (some 1)] = some (K', H') ∧ Has H' (L0 ++ ex')) ∧ Gth k P K' (n + 1) ex' := by
  simp only [decide_eq_true_eq] at hk
  have hid := hH.split.get _ _ _ hj
  rw [builtin_append hu (.inr (.inl ⟨_, _, _, _, _, rfl⟩))]
  refine gth_new (new := cs) g hH hu hs hb hz hk.2 rfl ?_ (by omega) (by rw [hk.1, Nat.one_mul]) hfl (fun i hi => ?_) hroom
  · simp only [cellsOf, hid]
    rw [if_pos (by omega), List.drop_zero, List.take_of_length_le (by omega)]
  · have : i = 0 := by omega
    subst this
    rw [Nat.zero_mul, List.drop_zero, List.take_of_length_le (by omega)]
    exact hP

theorem flat_all {k : Nat} {P : Nat → List AV → Prop} (hfl : ∀ i c, P i c → c.all isFlat = true) (hk : 0 < k) {cells : List AV} {len : Nat} (h1 : cells.length = len * k) (h2 : ∀ i, i < len → P i ((cells.drop (i * k)).take k)) : cells.all isFlat = true := by
  rw [List.all_eq_true]
  intro c hc
  obtain ⟨j, hj, rfl⟩ := List.mem_iff_getElem.1 hc
  have hq : j / k < len := Nat.div_lt_of_lt_mul (by rw [Nat.mul_comm]; omega)
  have hall := List.all_eq_true.1 (hfl _ _ (h2 (j / k) hq))
  refine hall _ (List.mem_of_getElem? (i := j % k) ?_)
  rw [List.getElem?_take_of_lt (Nat.mod_lt _ hk), List.getElem?_drop, Nat.mul_comm, Nat.div_add_mod, List.getElem?_eq_getElem hj]

/-- A whole list more. -/
theorem gth_cat {k : Nat} {P Q : Nat → List AV → Prop} {K x : AV} {n m : Nat} {ex : Kn} (L0 : Kn) {H : Heap} {bb : Nat} (t e : TypeId) (g : Gth k P K n ex) (hH : Has H (L0 ++ ex)) (hx : LS k Q x m) (hu : Tryz.prog.underlying t = some (.slice e)) (hs : sizeT Tryz.prog e = some k) (hb : bytesT Tryz.prog e = some bb) (hz : (zeroT Tryz.prog e).all (fun z => z.cells.length != k) = false)
    (hk : decide (0 < k ∧ 0 < bb) = true) (hfl : ∀ i c, Q i c → c.all isFlat = true) (hP : ∀ i c, i < m → Q i c → P (n + i) c) (hroom : (n + m) * bb ≤ roomA) :
    ∃ K' ex', (∃ H', builtinA Tryz.prog .append [t, t] H [K, x] = some (K', H') ∧ Has H' (L0 ++ ex')) ∧ Gth k P K' (n + m) ex' := by
  simp only [decide_eq_true_eq] at hk
  have hzero : ∀ y, lenA y = some 0 → cellsOf H k 0 y = some [] → ∃ K' ex', (∃ H', appendA Tryz.prog H t K y = some (K', H') ∧ Has H' (L0 ++ ex')) ∧ Gth k P K' (n + 0) ex' := by
    intro y h1 h2
    refine ⟨K, ex, ⟨H, ?_, hH⟩, g⟩
    unfold appendA
    rcases g with ⟨rfl, _⟩ | ⟨id, cells, rfl, _⟩ <;> simp [hu, hs, hb, h1, h2]
  rcases hx with ⟨rfl, rfl⟩ | ⟨cells, cap, rfl, h1, h2⟩
  · rw [builtin_append hu (.inl rfl)]
    exact hzero .nilsl rfl rfl
  · rw [builtin_append hu (.inr (.inr ⟨_, _, _, rfl⟩))]
    have ht : cellsOf H k m (.lst cells m cap) = some cells := by
      simp only [cellsOf]
      rw [if_pos (by omega), List.take_of_length_le (by omega)]
    by_cases hm : m = 0
    · subst hm
      have : cells = [] := List.eq_nil_of_length_eq_zero (by omega)
      subst this
      exact hzero _ rfl ht
    · exact gth_new (new := cells) g hH hu hs hb hz hk.2 rfl ht (by omega) h1 (flat_all hfl hk.1 h1 h2) (fun j hj => hP j _ hj (h2 j hj)) hroom

/-- Some of the blocks, and the rest whole. -/
theorem Has.pickt {H : Heap} {ex : Kn} (L0 : Kn) (h : Has H (L0 ++ ex)) (ks : List Nat) (hn : ks.Nodup) (hk : ks.all (fun k => decide (k < L0.length)) = true) : Has H ((ks.filterMap fun k => L0[k]?) ++ ex) := by
  have hp := h.pick (ks ++ (List.range ex.length).map (L0.length + ·)) (by
    rw [List.nodup_append]
    refine ⟨hn, ?_, fun a ha b hb => ?_⟩
    · rw [List.nodup_iff_pairwise_ne, List.pairwise_map]
      exact List.Pairwise.imp (fun h e => h (by omega)) (List.nodup_iff_pairwise_ne.1 List.nodup_range)
    · have := List.all_eq_true.1 hk a ha
      simp at this hb
      obtain ⟨c, _, rfl⟩ := hb
      omega)
  rw [List.filterMap_append] at hp
  have e1 : ks.filterMap (fun k => (L0 ++ ex)[k]?) = ks.filterMap fun k => L0[k]? := by
    clear hp hn
    induction ks with
    | nil => rfl
    | cons a ks ih =>
      simp only [List.all_cons, Bool.and_eq_true, decide_eq_true_eq] at hk
      rw [List.filterMap_cons, List.filterMap_cons, ih hk.2, List.getElem?_append_left hk.1]
  have e2 : ((List.range ex.length).map (L0.length + ·)).filterMap (fun k => (L0 ++ ex)[k]?) = ex := by
    rw [List.filterMap_map]
    have : ((fun k => (L0 ++ ex)[k]?) ∘ fun x => L0.length + x) = fun k => ex[k]? := by
      funext k
      show (L0 ++ ex)[L0.length + k]? = _
      rw [List.getElem?_append_right (by omega), Nat.add_sub_cancel_left]
    rw [this]
    clear hp e1 hk h hn this
    induction ex with
    | nil => rfl
    | cons x ex ih =>
      rw [List.length_cons, List.range_succ_eq_map, List.filterMap_cons]
      simp only [List.getElem?_cons_zero, List.filterMap_map, List.cons.injEq, true_and]
      have : ((fun k => (x :: ex)[k]?) ∘ Nat.succ) = fun k => ex[k]? := by funext k; simp
      rw [this, ih]
  rw [e1, e2] at hp
  exact hp

end Go.AX

/- AX, part 49: the guards on sizes. -/
set_option linter.unusedVariables false
set_option linter.unusedSimpArgs false
set_option maxRecDepth 4000
set_option maxHeartbeats 4000000
namespace Go.AX
open Go Go.RowKit Go.Proofs
attribute [local irreducible] WOps WD W

/-- What Normal makes of a polynomial. -/
noncomputable def norm (p : List AV) : List AV := match (ES Spec).O 40 [.agg p] with
  | some (.agg c) => c
  | _ => []

/-- The polynomials of a normal matrix. -/
def mpolys : Nat → List AV → List (List AV)
  | 0, _ => []
  | d + 1, cs => match cs with
    | [.int _ kd, _, a, b, c, e, kids] => if kd = 2 then [[a, b, c, e]] else (elems 7 kids).flatMap (mpolys d)
    | _ => []

/-- The polynomials of any matrix, made canonical. -/
noncomputable def rpolys : Nat → List AV → List (List AV)
  | 0, _ => []
  | d + 1, cs => match cs with
    | [.int _ kd, _, a, b, c, e, kids] => if kd = 2 then [norm [a, b, c, e]] else if kd = 3 ∨ kd = 4 then (elems 7 kids).flatMap (rpolys d) else []
    | _ => []

def lev : List AV → Int
  | .int _ l :: _ => l
  | _ => 0

def maxl : List Int → Int
  | [] => 0
  | a :: l => max a (maxl l)

/-- What ref38.Normal makes of a matrix. -/
inductive NR : List AV → List AV → Prop
  | tru {rl a b c e kids : AV} : NR [.int .i64 1, rl, a, b, c, e, kids] [.int .i64 1, .int .i64 0, .int .i64 0, .bool false, .nilsl, .nilsl, .nilsl]
  | atom {rl a b c e kids a' b' c' e' : AV} {rl' : Int} : norm [a, b, c, e] = [a', b', c', e'] → NR [.int .i64 2, rl, a, b, c, e, kids] [.int .i64 2, .int .i64 rl', a', b', c', e', .nilsl]
  | node {rl a b c e kids kids' : AV} {kd : Int} : kd = 3 ∨ kd = 4 → (elems 7 kids').length = (elems 7 kids).length → (∀ (i : Nat) x y, (elems 7 kids)[i]? = some x → (elems 7 kids')[i]? = some y → NR x y) → isFlat kids' = true →
      LS 7 (fun _ _ => True) kids' (elems 7 kids').length → NR [.int .i64 kd, rl, a, b, c, e, kids] [.int .i64 kd, .int .i64 0, .int .i64 0, .bool false, .nilsl, .nilsl, kids']
  | other {rl a b c e kids : AV} {kd : Int} : kd ≠ 1 → kd ≠ 2 → kd ≠ 3 → kd ≠ 4 → NR [.int .i64 kd, rl, a, b, c, e, kids] [.int .i64 0, .int .i64 0, .int .i64 0, .bool false, .nilsl, .nilsl, .nilsl]

def kwords : List ByteArray := [ByteArray.mk #[116, 114, 117, 101], ByteArray.mk #[102, 97, 108, 115, 101], ByteArray.mk #[97, 110, 100], ByteArray.mk #[111, 114], ByteArray.mk #[110, 111, 116], ByteArray.mk #[105, 109, 112, 108, 105, 101, 115], ByteArray.mk #[105, 102, 102], ByteArray.mk #[102, 111, 114, 97, 108, 108], ByteArray.mk #[101, 120, 105, 115, 116, 115]]

/-- The i-th byte of a text. -/
def byteAt (s : ByteArray) (i : Nat) : Int := if h : i < s.size then (s[i]'h).toNat else 0

def isLet (c : Int) : Prop := 97 ≤ c ∧ c ≤ 122 ∨ 65 ≤ c ∧ c ≤ 90 ∨ c = 95
def isDig (c : Int) : Prop := 48 ≤ c ∧ c ≤ 57

/-- A valid name. -/
def OkName (s : ByteArray) : Prop := 1 ≤ s.size ∧ s.size ≤ 16 ∧ (∀ w ∈ kwords, s.toList ≠ w.toList) ∧ ∀ i, i < s.size → isLet (byteAt s i) ∨ i ≠ 0 ∧ isDig (byteAt s i)

def strOf : List AV → ByteArray
  | [.str s] => s
  | _ => ByteArray.empty

/-- Valid names, that differ. -/
def OkNames (l : List ByteArray) : Prop := l.length ≤ 4 ∧ ∀ (i : Nat) s, l[i]? = some s → OkName s ∧ ∀ (j : Nat) t, j < i → l[j]? = some t → t.toList ≠ s.toList

/-- A valid prenex form. -/
def OKF (cs : List AV) : Prop := match cs with
  | .int _ fr :: al :: nm :: m => OkNames ((elems 1 nm).map strOf) ∧ 0 ≤ fr ∧ fr + (elems 1 al).length = (elems 1 nm).length ∧ maxl ((rpolys 12 m).map lev) ≤ (elems 1 nm).length
  | _ => False

/-- What is said of the functions' results. -/
def Sp1 : SpT := fun f args r => match f, args with
  | 117, [.agg p, .int _ n, .int _ d, .int _ g] => ∃ k : Int, r = .int .i64 k ∧ -1 ≤ k ∧ k < n ∧ (0 ≤ k → RV d.toNat 12 g.toNat p)
  | 60, [.agg p, .int _ n, .int _ g] => ∃ c, r = .bool c ∧ (c = true → RV 6 12 g.toNat p)
  | 59, [.agg m, .int _ n, .int _ d] => ∃ k : Int, r = .int .i64 k ∧ -1 ≤ k ∧ k < n ∧ (0 ≤ k → MV d.toNat (n - k).toNat m)
  | 28, [.agg m, .int _ n] => ∃ c, r = .bool c ∧ (c = true → MV 12 n.toNat m)
  | 16, [.agg p, .int _ n] => ∃ c, r = .bool c ∧ (c = true → FF n.toNat p)
  | 15, [.agg m] => ∃ cs, r = .agg cs ∧ NR m cs
  | 20, [.agg m] => ∃ len, LS 4 (fun i c => (mpolys 12 m)[i]? = some c) r len ∧ len = (mpolys 12 m).length
  | 158, [.agg m] => ∃ len, LS 4 (fun i c => (rpolys 12 m)[i]? = some c) r len ∧ len = (rpolys 12 m).length
  | 42, [.agg m] => r = .int .i64 (maxl ((mpolys 12 m).map lev))
  | 95, [.agg m] => r = .int .i64 (maxl ((rpolys 12 m).map lev))
  | 61, _ => ∃ c, r = .bool c
  | 29, _ => ∃ c, r = .bool c
  | 9, _ => ∃ c, r = .bool c
  | 35, _ => ∃ cs, r = .agg cs ∧ cs.length = 7 ∧ cs.all isFlat = true
  | 75, _ => ∃ n, r = .int .i64 n
  | 76, _ => ∃ n, r = .int .i64 n
  | 62, [.int _ n] => ∃ c, r = .bool c ∧ (c = true → 1 ≤ n ∧ n ≤ 4)
  | 31, _ => r = .tup [.nilsl, .int .i64 1]
  | 11, _ => r = .tup [.agg [.int .i64 0, .int .i64 0, .int .i64 0, .bool false, .nilsl, .nilsl, .nilsl], .int .i64 1]
  | 12, _ => r = .tup [.agg [.int .i64 0, .int .i64 0, .int .i64 0, .bool false, .nilsl, .nilsl, .nilsl], .int .i64 1]
  | 18, _ => r = .tup [.agg [.int .i64 0, .int .i64 0, .int .i64 0, .bool false, .nilsl, .nilsl, .nilsl], .int .i64 9]
  | 19, _ => r = .bool true
  | 8, _ => r = .bool true
  | 43, [.agg p] => ∃ c, r = .bool c ∧ (c = true ↔ OKF p)
  | 17, [.agg p] => ∃ c, r = .bool c ∧ (c = true ↔ OKF p)
  | 94, [l] => ∃ c, r = .bool c ∧ (c = true ↔ OkNames ((elems 1 l).map strOf))
  | 41, [l] => ∃ c, r = .bool c ∧ (c = true ↔ OkNames ((elems 1 l).map strOf))
  | 92, [.str s] => ∃ c, r = .bool c ∧ (c = true ↔ OkName s)
  | 156, [.str s] => ∃ c, r = .bool c ∧ (c = true ↔ OkName s)
  | 215, [.int _ n] => ∃ c, r = .bool c ∧ (c = true ↔ isLet n)
  | 93, [l, .str s] => ∃ n : Int, r = .int .i64 n ∧ (0 ≤ n ↔ ∃ (j : Nat) (t : ByteArray), ((elems 1 l).map strOf)[j]? = some t ∧ t.toList = s.toList)
  | 154, [l, .str s] => ∃ c, r = .bool c ∧ (c = true ↔ ∃ (j : Nat) (t : ByteArray), ((elems 1 l).map strOf)[j]? = some t ∧ t.toList = s.toList)
  | 157, [l, .str s] => ∃ c, r = .bool c ∧ (c = true ↔ ∃ (j : Nat) (t : ByteArray), ((elems 1 l).map strOf)[j]? = some t ∧ t.toList = s.toList)
  | 216, [l, .str s] => ∃ n : Int, r = .int .i64 n ∧ (0 ≤ n ↔ ∃ (j : Nat) (t : ByteArray), ((elems 1 l).map strOf)[j]? = some t ∧ t.toList = s.toList)
  | 155, _ => ∃ cap, r = .lst (kwords.map .str) 9 cap
  | _, _ => Spec f args r

theorem roomPoly_con : ∀ (d : Nat) (p : List AV) (n : Int) (g : Nat), TP d p → 0 ≤ n → n ≤ 2 ^ 40 → d ≤ 2 ^ 40 → Con 117 [.agg p, .int .i64 n, .int .i64 (d : Nat), .int .i64 (g : Nat)] (Sp1 117 [.agg p, .int .i64 n, .int .i64 (d : Nat), .int .i64 (g : Nat)]) := by
  intro d
  induction d with
  | zero =>
    intro p n g hp h0 hn hd
    obtain ⟨lv, ng, a, b, la, lb, rfl, hla, hla2, hlb, hlb2⟩ := hp
    have f_a := hla.flat
    have f_b := hlb.flat
    refine con_ret (Sp := Sp1) Tryz.func117 rfl ?_
    show W (ES Sp1) _ _ ⟨[.agg ([.int .i64 lv, .bool ng, a, b]), .int .i64 n, .int .i64 ((0 : Nat) : Int), .int .i64 (g : Nat)] ++ List.replicate 44 .undef, []⟩
    have hh1 := @Has.nil ([] : Heap)
    refine W.seq (W.region ?_)
    refine o_bx hh1 (.agg ([.int .i64 lv, .bool ng, a, b])) [.int .i64 lv, .bool ng, a, b] rfl (oc1 rfl (oc1 rfl (oc1 (one_of_flat f_a) (oc1 (one_of_flat f_b) oc0)))) rfl (by kernel_rfl) fun q4 H2 hh3 => ?_
    refine WOps.run dr1 [(8, .int .i64 0)] (by kernel_rfl) ?_
    refine WOps.e0 (Th_n (W.seq (W.region ?_)))
    refine WOps.run dr1 [(10, .int .i64 n)] (by kernel_rfl) ?_
    refine o_v2 (.int .i64 (IntKind.i64.wrap ((n : Int) - (1 : Int)))) (.int .i64 (n - 1)) (congrArg (AV.int .i64) (by rw [wrapN] <;> omega)) (by kernel_rfl) ?_
    refine WOps.run dr1 [(1, .int .i64 (n - 1))] (by kernel_rfl) ?_
    refine WOps.e0 (Th_n (W.seq (W.seq (W.region ?_))))
    refine WOps.run dr1 [(12, .int .i64 ((0 : Nat) : Int))] (by kernel_rfl) ?_
    refine o_v2 (.bool (((((0 : Nat) : Int) : Int) == (0 : Int)))) (.bool true) (congrArg AV.bool (beq_iff_eq.2 (rfl))) (by kernel_rfl) ?_
    refine WOps.run (drx dr4) [(14, .bool true), (15, .undef), (16, .undef), (17, .undef), (18, .undef), (19, .undef), (20, .undef), (21, .bool true), (22, .bool true), (23, .undef), (24, .undef), (25, .undef), (26, .undef), (27, .bool true)] (by kernel_rfl) ?_
    refine WOps.e0 (Th_n (W.condT (by kernel_rfl) (W.seq (W.region ?_))))
    refine WOps.run dr1 [(8, .int .i64 (-1))] (by kernel_rfl) ?_
    refine WOps.e0 (Th_n (W.ret (Th_r ?_)))
    exact ret_t (r' := .int .i64 (-1)) (⟨-1, rfl, by omega, by omega, fun h => by omega⟩) (.inr rfl) rfl (by kernel_rfl) (vflat rfl)
  | succ d ih =>
    intro p n g hp h0 hn hd
    obtain ⟨lv, ng, a, b, la, lb, rfl, hla, hla2, hlb, hlb2⟩ := hp
    have f_a := hla.flat
    have f_b := hlb.flat
    refine con_ret (Sp := Sp1) Tryz.func117 rfl ?_
    show W (ES Sp1) _ _ ⟨[.agg ([.int .i64 lv, .bool ng, a, b]), .int .i64 n, .int .i64 ((d + 1 : Nat) : Int), .int .i64 (g : Nat)] ++ List.replicate 44 .undef, []⟩
    have hh4 := @Has.nil ([] : Heap)
    refine W.seq (W.region ?_)
    refine o_bx hh4 (.agg ([.int .i64 lv, .bool ng, a, b])) [.int .i64 lv, .bool ng, a, b] rfl (oc1 rfl (oc1 rfl (oc1 (one_of_flat f_a) (oc1 (one_of_flat f_b) oc0)))) rfl (by kernel_rfl) fun q4 H5 hh6 => ?_
    refine WOps.run dr1 [(8, .int .i64 0)] (by kernel_rfl) ?_
    refine WOps.e0 (Th_n (W.seq (W.region ?_)))
    refine WOps.run dr1 [(10, .int .i64 n)] (by kernel_rfl) ?_
    refine o_v2 (.int .i64 (IntKind.i64.wrap ((n : Int) - (1 : Int)))) (.int .i64 (n - 1)) (congrArg (AV.int .i64) (by rw [wrapN] <;> omega)) (by kernel_rfl) ?_
    refine WOps.run dr1 [(1, .int .i64 (n - 1))] (by kernel_rfl) ?_
    refine WOps.e0 (Th_n (W.seq (W.seq (W.region ?_))))
    refine WOps.run dr1 [(12, .int .i64 ((d + 1 : Nat) : Int))] (by kernel_rfl) ?_
    refine o_v2 (.bool (((((d + 1 : Nat) : Int) : Int) == (0 : Int)))) (.bool false) (congrArg AV.bool (beq_eq_false_iff_ne.2 (by omega))) (by kernel_rfl) ?_
    refine WOps.run dr3 [(14, .bool false), (15, .ptr q4 1), (16, .ptr q4 2)] (by kernel_rfl) ?_
    refine o_ld hh6 0 2 (a) rfl rfl (by kernel_rfl) ?_
    refine o_vb (.int .i64 (la : Nat)) (hla.len P24 _) (by kernel_rfl) ?_
    refine WOps.run dr1 [(19, .int .i64 (g : Nat))] (by kernel_rfl) ?_
    by_cases h1 : la > g
    · refine o_v2 (.bool (decide (((la : Nat) : Int) > ((g : Nat) : Int)))) (.bool true) (congrArg AV.bool (decide_eq_true (by omega))) (by kernel_rfl) ?_
      refine WOps.run dr7 [(21, .bool true), (22, .bool true), (23, .undef), (24, .undef), (25, .undef), (26, .undef), (27, .bool true)] (by kernel_rfl) ?_
      refine WOps.e0 (Th_n (W.condT (by kernel_rfl) (W.seq (W.region ?_))))
      refine WOps.run dr1 [(8, .int .i64 (-1))] (by kernel_rfl) ?_
      refine WOps.e0 (Th_n (W.ret (Th_r ?_)))
      exact ret_t (r' := .int .i64 (-1)) (⟨-1, rfl, by omega, by omega, fun h => by omega⟩) (.inr rfl) rfl (by kernel_rfl) (vflat rfl)
    · refine o_v2 (.bool (decide (((la : Nat) : Int) > ((g : Nat) : Int)))) (.bool false) (congrArg AV.bool (decide_eq_false (by omega))) (by kernel_rfl) ?_
      refine WOps.run dr3 [(21, .bool false), (22, .bool false), (23, .ptr q4 3)] (by kernel_rfl) ?_
      refine o_ld hh6 0 3 (b) rfl rfl (by kernel_rfl) ?_
      refine o_vb (.int .i64 (lb : Nat)) (hlb.len P27 _) (by kernel_rfl) ?_
      by_cases h2 : lb > 12
      · refine o_v2 (.bool (decide (((lb : Nat) : Int) > (12 : Int)))) (.bool true) (congrArg AV.bool (decide_eq_true (by omega))) (by kernel_rfl) ?_
        refine WOps.run dr1 [(27, .bool true)] (by kernel_rfl) ?_
        refine WOps.e0 (Th_n (W.condT (by kernel_rfl) (W.seq (W.region ?_))))
        refine WOps.run dr1 [(8, .int .i64 (-1))] (by kernel_rfl) ?_
        refine WOps.e0 (Th_n (W.ret (Th_r ?_)))
        exact ret_t (r' := .int .i64 (-1)) (⟨-1, rfl, by omega, by omega, fun h => by omega⟩) (.inr rfl) rfl (by kernel_rfl) (vflat rfl)
      · refine o_v2 (.bool (decide (((lb : Nat) : Int) > (12 : Int)))) (.bool false) (congrArg AV.bool (decide_eq_false (by omega))) (by kernel_rfl) ?_
        refine WOps.run dr1 [(27, .bool false)] (by kernel_rfl) ?_
        refine WOps.e0 (Th_n (W.condF (by kernel_rfl) (W.skip (Th_n (W.seq (W.seq (W.region ?_)))))))
        refine WOps.run dr1 [(28, .ptr q4 3)] (by kernel_rfl) ?_
        refine o_ld hh6 0 3 (b) rfl rfl (by kernel_rfl) ?_
        refine o_vb (.int .i64 (lb : Nat)) (hlb.len P27 _) (by kernel_rfl) ?_
        refine WOps.run dr1 [(31, .int .i64 0)] (by kernel_rfl) ?_
        refine WOps.e0 (Th_n (W.blk ?_))
        refine W.lp (fun T u T1 H1 => ∃ (t8 t9 t32 t33 t34 t35 t36 t37 t38 t39 t40 t41 t42 t43 t44 t45 t46 : AV) (i : Nat) (c : Int), ups T [(1, .int .i64 c), (8, t8), (9, t9), (31, .int .i64 (i : Nat)), (32, t32), (33, t33), (34, t34), (35, t35), (36, t36), (37, t37), (38, t38), (39, t39), (40, t40), (41, t41), (42, t42), (43, t43), (44, t44), (45, t45), (46, t46)] = T1 ∧ Has H1 [(q4, .cells ([.int .i64 lv, .bool ng, a, b]))] ∧ i + u = lb ∧ -1 ≤ c ∧ c < n ∧ (0 ≤ c → ∀ (j : Nat) x, j < i → (elems 4 b)[j]? = some x → RV d 12 g x)) (lb) ⟨.int .i64 0, .undef, .undef, .undef, .undef, .undef, .undef, .undef, .undef, .undef, .undef, .undef, .undef, .undef, .undef, .undef, .undef, 0, n - 1, by kernel_rfl, hh6.pick [0] (by decide), Nat.zero_add _, by omega, by omega, fun _ j x hj => by omega⟩ ?_
        rintro u _ H7 ⟨t8, t9, t32, t33, t34, t35, t36, t37, t38, t39, t40, t41, t42, t43, t44, t45, t46, i, c, rfl, hh8, hi, hc1, hc2, hall⟩
        refine W.seq (W.region ?_)
        by_cases hlt : i < lb
        · refine o_v2 (.bool (decide (((i : Nat) : Int) < ((lb : Nat) : Int)))) (.bool true) (congrArg AV.bool (decide_eq_true (by omega))) (by kernel_rfl) ?_
          refine WOps.e0 (Th_n (W.seq (W.condT (by kernel_rfl) (W.skip (Th_n (W.seq (W.blk (W.seq (W.region ?_)))))))))
          refine WOps.run dr2 [(33, .int .i64 (i : Nat)), (9, .int .i64 (i : Nat))] (by kernel_rfl) ?_
          refine WOps.e0 (Th_n (W.seq (W.seq (W.region ?_))))
          refine WOps.run dr1 [(34, .int .i64 c)] (by kernel_rfl) ?_
          by_cases hc : c < 0
          · refine o_v2 (.bool (decide ((c : Int) < (0 : Int)))) (.bool true) (congrArg AV.bool (decide_eq_true (hc))) (by kernel_rfl) ?_
            refine WOps.e0 (Th_n (W.condT (by kernel_rfl) (W.seq (W.region ?_))))
            refine WOps.run dr1 [(8, .int .i64 (-1))] (by kernel_rfl) ?_
            refine WOps.e0 (Th_n (W.ret (Th_r (Bk_r (Th_r (Th_r (Bk_r (Th_r ?_))))))))
            exact ret_t (r' := .int .i64 (-1)) (⟨-1, rfl, by omega, by omega, fun h => by omega⟩) (.inr rfl) rfl (by kernel_rfl) (vflat rfl)
          · refine o_v2 (.bool (decide ((c : Int) < (0 : Int)))) (.bool false) (congrArg AV.bool (decide_eq_false (hc))) (by kernel_rfl) ?_
            refine WOps.e0 (Th_n (W.condF (by kernel_rfl) (W.skip (Th_n (W.region ?_)))))
            refine WOps.run dr1 [(36, .ptr q4 3)] (by kernel_rfl) ?_
            refine o_ld hh8 0 3 (b) rfl rfl (by kernel_rfl) ?_
            refine WOps.run dr1 [(38, .int .i64 (i : Nat))] (by kernel_rfl) ?_
            obtain ⟨pp, cs, hpp, hld, hcs, hel⟩ := hlb.gete P27 size29 agg29 hlt
            have hsh : ∃ lv2 ng2 a2 e2, cs = [.int .i64 lv2, .bool ng2, a2, e2] ∧ isFlat a2 = true ∧ isFlat e2 = true := by
              cases d with
              | zero => obtain ⟨x1, x2, x3, x4, _, _, e, y1, _, y2, _⟩ := hcs; exact ⟨x1, x2, x3, x4, e, y1.flat, y2.flat⟩
              | succ d => obtain ⟨x1, x2, x3, x4, _, _, e, y1, _, y2, _⟩ := hcs; exact ⟨x1, x2, x3, x4, e, y1.flat, y2.flat⟩
            obtain ⟨lv2, ng2, a2, e2, rfl, f_a2, f_e2⟩ := hsh
            refine o_vk (pp) (hpp) (by kernel_rfl) ?_
            refine o_vk (.agg ([.int .i64 lv2, .bool ng2, a2, e2])) ((hld) H7) (by kernel_rfl) ?_
            refine WOps.run dr2 [(41, .int .i64 c), (42, .int .i64 ((d + 1 : Nat) : Int))] (by kernel_rfl) ?_
            refine o_v2 (.int .i64 (IntKind.i64.wrap ((((d + 1 : Nat) : Int) : Int) - (1 : Int)))) (.int .i64 (((d : Nat) : Int))) (congrArg (AV.int .i64) (by rw [wrapN] <;> omega)) (by kernel_rfl) ?_
            refine WOps.run dr1 [(44, .int .i64 (g : Nat))] (by kernel_rfl) ?_
            refine o_call (ys := [.agg ([.int .i64 lv2, .bool ng2, a2, e2]), .int .i64 c, .int .i64 ((d : Nat) : Int), .int .i64 (g : Nat)]) (vcons (vagg (vflats (fc rfl (fc rfl (fc f_a2 (fc f_e2 fn0)))))) (vcons (vflat rfl) (vcons (vflat rfl) (vcons (vflat rfl) vnil)))) (ih _ c g hcs (by omega) (by omega) (by omega)) rfl (by kernel_rfl) fun z Oz hz => ?_
            obtain ⟨c2, rfl, hz1, hz2, hz3⟩ := hz
            refine WOps.run dr1 [(1, .int .i64 c2)] (by kernel_rfl) ?_
            refine WOps.e0 (Bk_n (Th_n (W.region ?_)))
            refine o_v2 (.int .i64 (IntKind.i64.wrap (((i : Nat) : Int) + (1 : Int)))) (.int .i64 (((i + 1 : Nat) : Int))) (congrArg (AV.int .i64) (by rw [wrapN] <;> omega)) (by kernel_rfl) ?_
            refine WOps.run dr1 [(31, .int .i64 ((i + 1 : Nat) : Int))] (by kernel_rfl) ?_
            refine WOps.e0 (Th_n ?_)
            exact ⟨u - 1, by omega, t8, .int .i64 (i : Nat), .bool true, .int .i64 (i : Nat), .int .i64 c, .bool false, .ptr q4 3, b, .int .i64 (i : Nat), pp, .agg ([.int .i64 lv2, .bool ng2, a2, e2]), .int .i64 c, .int .i64 ((d + 1 : Nat) : Int), .int .i64 ((d : Nat) : Int), .int .i64 (g : Nat), .int .i64 c2, .int .i64 ((i + 1 : Nat) : Int), i + 1, c2, by kernel_rfl, hh8.pick [0] (by decide), by omega, hz1, by omega, fun hc2 j x hj hx => (Nat.lt_succ_iff_lt_or_eq.1 hj).elim (fun h => hall (by omega) j x h hx) fun h => by rw [h, hel] at hx; simp at hx; rw [← hx]; exact hz3 hc2⟩
        · refine o_v2 (.bool (decide (((i : Nat) : Int) < ((lb : Nat) : Int)))) (.bool false) (congrArg AV.bool (decide_eq_false (by omega))) (by kernel_rfl) ?_
          refine WOps.e0 (Th_n (W.seq (W.condF (by kernel_rfl) (W.exit (Th_e (Th_e (Bk_s (Th_n (W.seq (W.region ?_))))))))))
          refine WOps.run dr2 [(47, .int .i64 c), (8, .int .i64 c)] (by kernel_rfl) ?_
          refine WOps.e0 (Th_n (W.ret ?_))
          exact ret_t (r' := .int .i64 c) (⟨c, rfl, hc1, hc2, fun h => ⟨lv, ng, a, b, rfl, hla.nv (by omega), (hlb.of_el fun j x hj hx => hall h j x (by omega) hx).rv (by omega)⟩⟩) (.inr rfl) rfl (by kernel_rfl) (vflat rfl)

theorem FewPoly_con (p : List AV) (n : Int) (g : Nat) (hp : TP 6 p) (h0 : 0 ≤ n) (hn : n ≤ 2 ^ 40) : Con 60 [.agg p, .int .i64 n, .int .i64 (g : Nat)] (Sp1 60 [.agg p, .int .i64 n, .int .i64 (g : Nat)]) := by
  have hp' := hp
  obtain ⟨lv, ng, a, b, la, lb, rfl, hla, hla2, hlb, hlb2⟩ := hp
  have f_a := hla.flat
  have f_b := hlb.flat
  refine con_ret (Sp := Sp1) Tryz.func60 rfl ?_
  show W (ES Sp1) _ _ ⟨[.agg ([.int .i64 lv, .bool ng, a, b]), .int .i64 n, .int .i64 (g : Nat)] ++ List.replicate 9 .undef, []⟩
  have hh9 := @Has.nil ([] : Heap)
  refine W.seq (W.region ?_)
  refine o_bx hh9 (.agg ([.int .i64 lv, .bool ng, a, b])) [.int .i64 lv, .bool ng, a, b] rfl (oc1 rfl (oc1 rfl (oc1 (one_of_flat f_a) (oc1 (one_of_flat f_b) oc0)))) rfl (by kernel_rfl) fun q3 H10 hh11 => ?_
  refine WOps.run dr1 [(6, .bool false)] (by kernel_rfl) ?_
  refine WOps.e0 (Th_n (W.seq (W.region ?_)))
  refine o_ld hh11 0 0 (.agg ([.int .i64 lv, .bool ng, a, b])) rfl rfl (by kernel_rfl) ?_
  refine WOps.run dr2 [(8, .int .i64 n), (9, .int .i64 (g : Nat))] (by kernel_rfl) ?_
  refine o_call (ys := [.agg ([.int .i64 lv, .bool ng, a, b]), .int .i64 n, .int .i64 6, .int .i64 (g : Nat)]) (vcons (vagg (vflats (fc rfl (fc rfl (fc f_a (fc f_b fn0)))))) (vcons (vflat rfl) (vcons (vflat rfl) (vcons (vflat rfl) vnil)))) (roomPoly_con 6 _ n g hp' h0 hn (by omega)) rfl (by kernel_rfl) fun z Oz hz => ?_
  obtain ⟨k, rfl, hz1, hz2, hz3⟩ := hz
  by_cases hk : k ≥ 0
  · refine o_v2 (.bool (decide ((k : Int) ≥ (0 : Int)))) (.bool true) (congrArg AV.bool (decide_eq_true (hk))) (by kernel_rfl) ?_
    refine WOps.run dr1 [(6, .bool true)] (by kernel_rfl) ?_
    refine WOps.e0 (Th_n (W.ret ?_))
    exact ret_t (r' := .bool true) (⟨true, rfl, fun _ => hz3 hk⟩) (.inr rfl) rfl (by kernel_rfl) (vflat rfl)
  · refine o_v2 (.bool (decide ((k : Int) ≥ (0 : Int)))) (.bool false) (congrArg AV.bool (decide_eq_false (hk))) (by kernel_rfl) ?_
    refine WOps.run dr1 [(6, .bool false)] (by kernel_rfl) ?_
    refine WOps.e0 (Th_n (W.ret ?_))
    exact ret_t (r' := .bool false) (⟨false, rfl, fun h => by simp at h⟩) (.inr rfl) rfl (by kernel_rfl) (vflat rfl)

end Go.AX
