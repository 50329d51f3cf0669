/- AX, part 58: prenex forms: polynomials and levels. -/
import Derived.Test.YtkkdpjmefjampaaGreatC4
set_option linter.unusedVariables false
set_option linter.unusedSimpArgs false
set_option maxRecDepth 4000
set_option maxHeartbeats 4000000
namespace Go.AX
open Go Go.RowKit Go.Proofs
attribute [local irreducible] WOps WD W

theorem pPolys_con : ∀ (d N : Nat) (m : List AV), MV d N m → d ≤ 12 → N ≤ 2 ^ 20 → Con 158 [.agg m] (Sp1 158 [.agg m]) := by
  intro d
  induction d with
  | zero => intro N m h; exact h.elim
  | succ d ih =>
    intro N m hm hd hN
    have hm' := hm
    have hlen12 : (rpolys 12 m).length ≤ N := by rw [rpolys_stable hm (by omega)]; exact rpolys_len hm
    obtain ⟨kd, rl, lv, ng, a, b, kids, lk, f, rfl, hpo, hk, hsum⟩ := hm
    obtain ⟨_, _, _, _, e, f_a, f_b⟩ := (hpo.tp (by omega) (by omega) 6).shape
    simp at e
    obtain ⟨_, _, rfl, rfl⟩ := e
    have f_kids := hk.flat
    have hlkN : lk ≤ sumN f lk := sumN_ge fun i hi => (hk.el.2 i _ (List.getElem?_eq_getElem (by rw [hk.el.1]; exact hi))).pos
    have hst : ∀ (i : Nat) x, (elems 7 kids)[i]? = some x → rpolys 11 x = rpolys 12 x := fun i x hx => by rw [rpolys_stable (hk.el.2 i x hx) (e := 12) (by omega), rpolys_stable (hk.el.2 i x hx) (e := 11) (by omega)]
    have hnode : kd = 3 ∨ kd = 4 → rpolys 12 [.int .i64 kd, .int .i64 rl, .int .i64 lv, .bool ng, a, b, kids] = (elems 7 kids).flatMap (rpolys 12) := by
      intro h
      show (if kd = 2 then _ else if kd = 3 ∨ kd = 4 then (elems 7 kids).flatMap (rpolys 11) else []) = _
      rw [if_neg (by omega), if_pos h]
      exact flatMap_congr' hst
    refine con_ret (Sp := Sp1) Tryz.func158 rfl ?_
    show W (ES Sp1) _ _ ⟨[.agg ([.int .i64 kd, .int .i64 rl, .int .i64 lv, .bool ng, a, b, kids])] ++ List.replicate 31 .undef, []⟩
    have hh1 := @Has.nil ([] : Heap)
    refine W.seq (W.region ?_)
    refine o_bx hh1 (.agg ([.int .i64 kd, .int .i64 rl, .int .i64 lv, .bool ng, a, b, kids])) [.int .i64 kd, .int .i64 rl, .int .i64 lv, .bool ng, a, b, kids] rfl (oc1 rfl (oc1 rfl (oc1 rfl (oc1 rfl (oc1 (one_of_flat f_a) (oc1 (one_of_flat f_b) (oc1 (one_of_flat f_kids) oc0))))))) rfl (by kernel_rfl) fun q1 H2 hh3 => ?_
    refine WOps.run dr1 [(2, .nilsl)] (by kernel_rfl) ?_
    refine WOps.e0 (Th_n (W.seq (W.region ?_)))
    refine WOps.run dr1 [(3, .nilsl)] (by kernel_rfl) ?_
    refine WOps.e0 (Th_n (W.seq (W.seq (W.region ?_))))
    refine WOps.run dr1 [(6, .ptr q1 0)] (by kernel_rfl) ?_
    refine o_ld hh3 0 0 (.int .i64 kd) rfl rfl (by kernel_rfl) ?_
    refine WOps.e0 (Th_n (W.blk (W.seq (W.region ?_))))
    by_cases k2 : kd = 2
    · subst k2
      refine WOps.run dr2 [(9, .bool true), (8, .bool true)] (by kernel_rfl) ?_
      refine WOps.e0 (Th_n (W.condT (by kernel_rfl) (W.region ?_)))
      refine WOps.run dr2 [(10, .nilsl), (11, .ptr q1 2)] (by kernel_rfl) ?_
      refine o_ld hh3 0 2 (.agg ([.int .i64 lv, .bool ng, a, b])) rfl rfl (by kernel_rfl) ?_
      have e12 : rpolys 12 [.int .i64 2, .int .i64 rl, .int .i64 lv, .bool ng, a, b, kids] = [norm [.int .i64 lv, .bool ng, a, b]] := rfl
      refine o_call (ys := [.agg ([.int .i64 lv, .bool ng, a, b])]) (vcons (vagg (vflats (fc rfl (fc rfl (fc f_a (fc f_b fn0)))))) vnil) (pNormal_spec hpo (by omega) (by decide) (by decide)) rfl (by kernel_rfl) fun z Oz hz => ?_
      obtain ⟨zc, rfl, hzv⟩ := hz 6 12 4 hpo
      obtain ⟨lv2, ng2, a2, e2, rfl, ha2, f_e2⟩ := hzv.pv
      have f_a2 := nv_flat ha2
      rw [O40, (norm0 hpo).1] at Oz
      simp only [Option.some.injEq, AV.agg.injEq] at Oz
      refine o_bs hh3 [.int .i64 lv2, .bool ng2, a2, e2] (ps := [(0, .agg ([.int .i64 lv2, .bool ng2, a2, e2]))]) (qs := [(0, [.int .i64 lv2, .bool ng2, a2, e2])]) (.c rfl .n) (oc1 rfl (oc1 rfl (oc1 (one_of_flat f_a2) (oc1 (one_of_flat f_e2) oc0)))) rfl rfl rfl rfl (by kernel_rfl) fun q14 H4 hh5 => ?_
      rw [Oz] at e12
      obtain ⟨K2, ex2, e6, g2⟩ := gth_push (P := fun i c => [[AV.int .i64 lv2, .bool ng2, a2, e2]][i]? = some c) (n := 0) (ex := []) [(q14, .cells ([.int .i64 lv2, .bool ng2, a2, e2])), (q1, .cells ([.int .i64 2, .int .i64 rl, .int .i64 lv, .bool ng, a, b, kids]))] 27 29 0 (.inl ⟨rfl, rfl, rfl⟩) hh5 P27 size29 bytes29' (by kernel_rfl) rfl rfl (fc rfl (fc rfl (fc f_a2 (fc f_e2 fn0)))) rfl (by unfold roomA; omega)
      refine o_gen K2 (L := ([(q14, .cells ([.int .i64 lv2, .bool ng2, a2, e2])), (q1, .cells ([.int .i64 2, .int .i64 rl, .int .i64 lv, .bool ng, a, b, kids]))] ++ ex2)) e6 (by kernel_rfl) fun H7 hh8 => ?_
      have o_K2 := g2.one
      have c_K2 := g2.cells
      refine WOps.run dr1 [(3, K2)] (by kernel_rfl) ?_
      refine WOps.e0 (Bk_n (Th_n (W.seq (W.region ?_))))
      refine WOps.run dr2 [(31, K2), (2, K2)] (by kernel_rfl) ?_
      refine WOps.e0 (Th_n (W.ret ?_))
      obtain ⟨K9, w_K2, v_K2, l_K9, f_K9⟩ := g2.view [(q14, .cells ([.int .i64 lv2, .bool ng2, a2, e2])), (q1, .cells ([.int .i64 2, .int .i64 rl, .int .i64 lv, .bool ng, a, b, kids]))] hh8
      exact ret_t (r' := K9) (⟨1, by rw [e12]; exact l_K9, by rw [e12]; rfl⟩) (.inr rfl) rfl (by kernel_rfl) (v_K2 _)
    · refine o_v2 (.bool (((kd : Int) == (2 : Int)))) (.bool false) (congrArg AV.bool (beq_eq_false_iff_ne.2 (k2))) (by kernel_rfl) ?_
      refine WOps.run dr1 [(8, .bool false)] (by kernel_rfl) ?_
      refine WOps.e0 (Th_n (W.condF (by kernel_rfl) (W.seq (W.seq (W.region ?_)))))
      by_cases k3 : kd = 3
      · subst k3
        refine WOps.run dr2 [(17, .bool true), (16, .bool true)] (by kernel_rfl) ?_
        refine WOps.e0 (Th_n (W.condT (by kernel_rfl) (W.skip (Th_n (W.condT (by kernel_rfl) (W.seq (W.region ?_)))))))
        refine WOps.run dr1 [(19, .ptr q1 6)] (by kernel_rfl) ?_
        refine o_ld hh3 0 6 (kids) rfl rfl (by kernel_rfl) ?_
        have e12 := hnode (.inl rfl)
        rw [e12] at hlen12
        refine o_vb (.int .i64 (lk : Nat)) (hk.len P30 _) (by kernel_rfl) ?_
        refine WOps.run dr1 [(22, .int .i64 0)] (by kernel_rfl) ?_
        refine WOps.e0 (Th_n (W.blk ?_))
        refine W.lp (fun T u T1 H1 => ∃ (t5 t23 t24 t25 t26 t27 t28 t29 t30 : AV) (i : Nat) (K : AV) (ex : Kn), ups T [(3, K), (5, t5), (22, .int .i64 (i : Nat)), (23, t23), (24, t24), (25, t25), (26, t26), (27, t27), (28, t28), (29, t29), (30, t30)] = T1 ∧ Has H1 ([(q1, .cells ([.int .i64 3, .int .i64 rl, .int .i64 lv, .bool ng, a, b, kids]))] ++ ex) ∧ i + u = lk ∧ Gth 4 (fun j c => (pre (rpolys 12) kids i)[j]? = some c) K (pre (rpolys 12) kids i).length ex) (lk) ⟨.undef, .undef, .undef, .undef, .undef, .undef, .undef, .undef, .undef, 0, .nilsl, [], by kernel_rfl, hh3.pick [0] (by decide), Nat.zero_add _, .inl ⟨rfl, rfl, rfl⟩⟩ ?_
        rintro u _ H9 ⟨t5, t23, t24, t25, t26, t27, t28, t29, t30, i, K, ex, rfl, hh10, hi, g⟩
        refine W.seq (W.region ?_)
        have o_K := g.one
        have c_K := g.cells
        by_cases hlt : i < lk
        · refine o_v2 (.bool (decide (((i : Nat) : Int) < ((lk : Nat) : Int)))) (.bool true) (congrArg AV.bool (decide_eq_true (by omega))) (by kernel_rfl) ?_
          refine WOps.e0 (Th_n (W.seq (W.condT (by kernel_rfl) (W.skip (Th_n (W.seq (W.blk (W.seq (W.region ?_)))))))))
          obtain ⟨pp, cs, hpp, hld, hcs, hel⟩ := hk.gete P30 size32 agg32 hlt
          have hcs' := hcs
          obtain ⟨kd2, rl2, lv2, ng2, a2, e2, kids2, rfl, f_a2, f_e2, f_kids2⟩ := hcs.shape
          refine o_vk (pp) (hpp) (by kernel_rfl) ?_
          refine o_vk (.agg ([.int .i64 kd2, .int .i64 rl2, .int .i64 lv2, .bool ng2, a2, e2, kids2])) ((hld) H9) (by kernel_rfl) ?_
          refine o_al hh10 (.agg ([.int .i64 0, .int .i64 0, .int .i64 0, .bool false, .nilsl, .nilsl, .nilsl])) rfl (by kernel_rfl) fun q5 H11 hh12 => ?_
          refine o_st hh12 0 0 (.agg ([.int .i64 kd2, .int .i64 rl2, .int .i64 lv2, .bool ng2, a2, e2, kids2])) [.int .i64 kd2, .int .i64 rl2, .int .i64 lv2, .bool ng2, a2, e2, kids2] rfl rfl (oc1 rfl (oc1 rfl (oc1 rfl (oc1 rfl (oc1 (one_of_flat f_a2) (oc1 (one_of_flat f_e2) (oc1 (one_of_flat f_kids2) oc0))))))) (by kernel_rfl) fun H13 hh14 => ?_
          refine WOps.e0 (Th_n (W.region ?_))
          refine WOps.run dr1 [(26, K)] (by kernel_rfl) ?_
          refine o_ld hh14 0 0 (.agg ([.int .i64 kd2, .int .i64 rl2, .int .i64 lv2, .bool ng2, a2, e2, kids2])) rfl rfl (by kernel_rfl) ?_
          have hfi := sumN_mem f hlt
          refine o_call (ys := [.agg ([.int .i64 kd2, .int .i64 rl2, .int .i64 lv2, .bool ng2, a2, e2, kids2])]) (vcons (vagg (vflats (fc rfl (fc rfl (fc rfl (fc rfl (fc f_a2 (fc f_e2 (fc f_kids2 fn0))))))))) vnil) (ih _ _ hcs' (by omega) (by omega)) rfl (by kernel_rfl) fun z Oz hz => ?_
          obtain ⟨len, hzl, hlen⟩ := hz
          have f_z := hzl.flat
          obtain ⟨K2, ex2, e15, g2⟩ := gth_pre [(q5, .cells ([.int .i64 kd2, .int .i64 rl2, .int .i64 lv2, .bool ng2, a2, e2, kids2])), (q1, .cells ([.int .i64 3, .int .i64 rl, .int .i64 lv, .bool ng, a, b, kids]))] g hh14 hel hzl hlen (by rw [rpolys_stable hcs' (by omega)]; exact rpolys_cv hcs') (by omega)
          refine o_gen K2 (L := ([(q5, .cells ([.int .i64 kd2, .int .i64 rl2, .int .i64 lv2, .bool ng2, a2, e2, kids2])), (q1, .cells ([.int .i64 3, .int .i64 rl, .int .i64 lv, .bool ng, a, b, kids]))] ++ ex2)) e15 (by kernel_rfl) fun H16 hh17 => ?_
          have o_K2 := g2.one
          have c_K2 := g2.cells
          refine WOps.run dr1 [(3, K2)] (by kernel_rfl) ?_
          refine WOps.e0 (Bk_n (Th_n (W.region ?_)))
          refine o_v2 (.int .i64 (IntKind.i64.wrap (((i : Nat) : Int) + (1 : Int)))) (.int .i64 (((i + 1 : Nat) : Int))) (congrArg (AV.int .i64) (by rw [wrapN] <;> omega)) (by kernel_rfl) ?_
          refine WOps.run dr1 [(22, .int .i64 ((i + 1 : Nat) : Int))] (by kernel_rfl) ?_
          refine WOps.e0 (Th_n ?_)
          exact ⟨u - 1, by omega, .ptr q5 0, .bool true, pp, .agg ([.int .i64 kd2, .int .i64 rl2, .int .i64 lv2, .bool ng2, a2, e2, kids2]), K, .agg ([.int .i64 kd2, .int .i64 rl2, .int .i64 lv2, .bool ng2, a2, e2, kids2]), z, K2, .int .i64 ((i + 1 : Nat) : Int), i + 1, K2, ex2, by kernel_rfl, hh17.pickt [(q5, .cells ([.int .i64 kd2, .int .i64 rl2, .int .i64 lv2, .bool ng2, a2, e2, kids2])), (q1, .cells ([.int .i64 3, .int .i64 rl, .int .i64 lv, .bool ng, a, b, kids]))] [1] (by decide) rfl, by omega, g2⟩
        · refine o_v2 (.bool (decide (((i : Nat) : Int) < ((lk : Nat) : Int)))) (.bool false) (congrArg AV.bool (decide_eq_false (by omega))) (by kernel_rfl) ?_
          refine WOps.e0 (Th_n (W.seq (W.condF (by kernel_rfl) (W.exit (Th_e (Th_e (Bk_s (Bk_n (Th_n (W.seq (W.region ?_)))))))))))
          refine WOps.run dr2 [(31, K), (2, K)] (by kernel_rfl) ?_
          refine WOps.e0 (Th_n (W.ret ?_))
          have hil : i = lk := by omega
          subst hil
          rw [pre_all (by rw [hk.el.1]; exact Nat.le_refl _)] at g
          obtain ⟨K9, w_K, v_K, l_K9, f_K9⟩ := g.view [(q1, .cells ([.int .i64 3, .int .i64 rl, .int .i64 lv, .bool ng, a, b, kids]))] hh10
          exact ret_t (r' := K9) (⟨_, by rw [e12]; exact l_K9, by rw [e12]⟩) (.inr rfl) rfl (by kernel_rfl) (v_K _)
      · refine o_v2 (.bool (((kd : Int) == (3 : Int)))) (.bool false) (congrArg AV.bool (beq_eq_false_iff_ne.2 (k3))) (by kernel_rfl) ?_
        refine WOps.run dr1 [(16, .bool false)] (by kernel_rfl) ?_
        refine WOps.e0 (Th_n (W.condF (by kernel_rfl) (W.region ?_)))
        by_cases k4 : kd = 4
        · subst k4
          refine WOps.run dr2 [(18, .bool true), (16, .bool true)] (by kernel_rfl) ?_
          refine WOps.e0 (Th_n (W.condT (by kernel_rfl) (W.seq (W.region ?_))))
          refine WOps.run dr1 [(19, .ptr q1 6)] (by kernel_rfl) ?_
          refine o_ld hh3 0 6 (kids) rfl rfl (by kernel_rfl) ?_
          have e12 := hnode (.inr rfl)
          rw [e12] at hlen12
          refine o_vb (.int .i64 (lk : Nat)) (hk.len P30 _) (by kernel_rfl) ?_
          refine WOps.run dr1 [(22, .int .i64 0)] (by kernel_rfl) ?_
          refine WOps.e0 (Th_n (W.blk ?_))
          refine W.lp (fun T u T1 H1 => ∃ (t5 t23 t24 t25 t26 t27 t28 t29 t30 : AV) (i : Nat) (K : AV) (ex : Kn), ups T [(3, K), (5, t5), (22, .int .i64 (i : Nat)), (23, t23), (24, t24), (25, t25), (26, t26), (27, t27), (28, t28), (29, t29), (30, t30)] = T1 ∧ Has H1 ([(q1, .cells ([.int .i64 4, .int .i64 rl, .int .i64 lv, .bool ng, a, b, kids]))] ++ ex) ∧ i + u = lk ∧ Gth 4 (fun j c => (pre (rpolys 12) kids i)[j]? = some c) K (pre (rpolys 12) kids i).length ex) (lk) ⟨.undef, .undef, .undef, .undef, .undef, .undef, .undef, .undef, .undef, 0, .nilsl, [], by kernel_rfl, hh3.pick [0] (by decide), Nat.zero_add _, .inl ⟨rfl, rfl, rfl⟩⟩ ?_
          rintro u _ H18 ⟨t5, t23, t24, t25, t26, t27, t28, t29, t30, i, K, ex, rfl, hh19, hi, g⟩
          refine W.seq (W.region ?_)
          have o_K := g.one
          have c_K := g.cells
          by_cases hlt : i < lk
          · refine o_v2 (.bool (decide (((i : Nat) : Int) < ((lk : Nat) : Int)))) (.bool true) (congrArg AV.bool (decide_eq_true (by omega))) (by kernel_rfl) ?_
            refine WOps.e0 (Th_n (W.seq (W.condT (by kernel_rfl) (W.skip (Th_n (W.seq (W.blk (W.seq (W.region ?_)))))))))
            obtain ⟨pp, cs, hpp, hld, hcs, hel⟩ := hk.gete P30 size32 agg32 hlt
            have hcs' := hcs
            obtain ⟨kd2, rl2, lv2, ng2, a2, e2, kids2, rfl, f_a2, f_e2, f_kids2⟩ := hcs.shape
            refine o_vk (pp) (hpp) (by kernel_rfl) ?_
            refine o_vk (.agg ([.int .i64 kd2, .int .i64 rl2, .int .i64 lv2, .bool ng2, a2, e2, kids2])) ((hld) H18) (by kernel_rfl) ?_
            refine o_al hh19 (.agg ([.int .i64 0, .int .i64 0, .int .i64 0, .bool false, .nilsl, .nilsl, .nilsl])) rfl (by kernel_rfl) fun q5 H20 hh21 => ?_
            refine o_st hh21 0 0 (.agg ([.int .i64 kd2, .int .i64 rl2, .int .i64 lv2, .bool ng2, a2, e2, kids2])) [.int .i64 kd2, .int .i64 rl2, .int .i64 lv2, .bool ng2, a2, e2, kids2] rfl rfl (oc1 rfl (oc1 rfl (oc1 rfl (oc1 rfl (oc1 (one_of_flat f_a2) (oc1 (one_of_flat f_e2) (oc1 (one_of_flat f_kids2) oc0))))))) (by kernel_rfl) fun H22 hh23 => ?_
            refine WOps.e0 (Th_n (W.region ?_))
            refine WOps.run dr1 [(26, K)] (by kernel_rfl) ?_
            refine o_ld hh23 0 0 (.agg ([.int .i64 kd2, .int .i64 rl2, .int .i64 lv2, .bool ng2, a2, e2, kids2])) rfl rfl (by kernel_rfl) ?_
            have hfi := sumN_mem f hlt
            refine o_call (ys := [.agg ([.int .i64 kd2, .int .i64 rl2, .int .i64 lv2, .bool ng2, a2, e2, kids2])]) (vcons (vagg (vflats (fc rfl (fc rfl (fc rfl (fc rfl (fc f_a2 (fc f_e2 (fc f_kids2 fn0))))))))) vnil) (ih _ _ hcs' (by omega) (by omega)) rfl (by kernel_rfl) fun z Oz hz => ?_
            obtain ⟨len, hzl, hlen⟩ := hz
            have f_z := hzl.flat
            obtain ⟨K2, ex2, e24, g2⟩ := gth_pre [(q5, .cells ([.int .i64 kd2, .int .i64 rl2, .int .i64 lv2, .bool ng2, a2, e2, kids2])), (q1, .cells ([.int .i64 4, .int .i64 rl, .int .i64 lv, .bool ng, a, b, kids]))] g hh23 hel hzl hlen (by rw [rpolys_stable hcs' (by omega)]; exact rpolys_cv hcs') (by omega)
            refine o_gen K2 (L := ([(q5, .cells ([.int .i64 kd2, .int .i64 rl2, .int .i64 lv2, .bool ng2, a2, e2, kids2])), (q1, .cells ([.int .i64 4, .int .i64 rl, .int .i64 lv, .bool ng, a, b, kids]))] ++ ex2)) e24 (by kernel_rfl) fun H25 hh26 => ?_
            have o_K2 := g2.one
            have c_K2 := g2.cells
            refine WOps.run dr1 [(3, K2)] (by kernel_rfl) ?_
            refine WOps.e0 (Bk_n (Th_n (W.region ?_)))
            refine o_v2 (.int .i64 (IntKind.i64.wrap (((i : Nat) : Int) + (1 : Int)))) (.int .i64 (((i + 1 : Nat) : Int))) (congrArg (AV.int .i64) (by rw [wrapN] <;> omega)) (by kernel_rfl) ?_
            refine WOps.run dr1 [(22, .int .i64 ((i + 1 : Nat) : Int))] (by kernel_rfl) ?_
            refine WOps.e0 (Th_n ?_)
            exact ⟨u - 1, by omega, .ptr q5 0, .bool true, pp, .agg ([.int .i64 kd2, .int .i64 rl2, .int .i64 lv2, .bool ng2, a2, e2, kids2]), K, .agg ([.int .i64 kd2, .int .i64 rl2, .int .i64 lv2, .bool ng2, a2, e2, kids2]), z, K2, .int .i64 ((i + 1 : Nat) : Int), i + 1, K2, ex2, by kernel_rfl, hh26.pickt [(q5, .cells ([.int .i64 kd2, .int .i64 rl2, .int .i64 lv2, .bool ng2, a2, e2, kids2])), (q1, .cells ([.int .i64 4, .int .i64 rl, .int .i64 lv, .bool ng, a, b, kids]))] [1] (by decide) rfl, by omega, g2⟩
          · refine o_v2 (.bool (decide (((i : Nat) : Int) < ((lk : Nat) : Int)))) (.bool false) (congrArg AV.bool (decide_eq_false (by omega))) (by kernel_rfl) ?_
            refine WOps.e0 (Th_n (W.seq (W.condF (by kernel_rfl) (W.exit (Th_e (Th_e (Bk_s (Bk_n (Th_n (W.seq (W.region ?_)))))))))))
            refine WOps.run dr2 [(31, K), (2, K)] (by kernel_rfl) ?_
            refine WOps.e0 (Th_n (W.ret ?_))
            have hil : i = lk := by omega
            subst hil
            rw [pre_all (by rw [hk.el.1]; exact Nat.le_refl _)] at g
            obtain ⟨K9, w_K, v_K, l_K9, f_K9⟩ := g.view [(q1, .cells ([.int .i64 4, .int .i64 rl, .int .i64 lv, .bool ng, a, b, kids]))] hh19
            exact ret_t (r' := K9) (⟨_, by rw [e12]; exact l_K9, by rw [e12]⟩) (.inr rfl) rfl (by kernel_rfl) (v_K _)
        · refine o_v2 (.bool (((kd : Int) == (4 : Int)))) (.bool false) (congrArg AV.bool (beq_eq_false_iff_ne.2 (k4))) (by kernel_rfl) ?_
          refine WOps.run dr1 [(16, .bool false)] (by kernel_rfl) ?_
          refine WOps.e0 (Th_n (W.condF (by kernel_rfl) (W.skip (Bk_n (Th_n (W.seq (W.region ?_)))))))
          refine WOps.run dr2 [(31, .nilsl), (2, .nilsl)] (by kernel_rfl) ?_
          refine WOps.e0 (Th_n (W.ret ?_))
          have e12 : rpolys 12 [.int .i64 kd, .int .i64 rl, .int .i64 lv, .bool ng, a, b, kids] = [] := by
            show (if kd = 2 then _ else if kd = 3 ∨ kd = 4 then (elems 7 kids).flatMap (rpolys 11) else []) = _
            rw [if_neg k2, if_neg (by omega)]
          exact ret_t (r' := .nilsl) (⟨0, .inl ⟨rfl, rfl⟩, by rw [e12]; rfl⟩) (.inr rfl) rfl (by kernel_rfl) (vflat rfl)

theorem pLevel_con (d N : Nat) (m : List AV) (hm : MV d N m) (hd : d ≤ 12) (hN : N ≤ 2 ^ 20) : Con 95 [.agg m] (Sp1 95 [.agg m]) := by
  have hm' := hm
  have hcv : ∀ c ∈ rpolys 12 m, CV 4 L0 N0 c := by rw [rpolys_stable hm (by omega)]; exact rpolys_cv hm
  have hlen12 : (rpolys 12 m).length ≤ N := by rw [rpolys_stable hm (by omega)]; exact rpolys_len hm
  obtain ⟨kd, rl, lv, ng, a, b, kids, rfl, f_a, f_b, f_kids⟩ := hm.shape
  refine con_ret (Sp := Sp1) Tryz.func95 rfl ?_
  show W (ES Sp1) _ _ ⟨[.agg ([.int .i64 kd, .int .i64 rl, .int .i64 lv, .bool ng, a, b, kids])] ++ List.replicate 18 .undef, []⟩
  have hh27 := @Has.nil ([] : Heap)
  refine W.seq (W.region ?_)
  refine o_bx hh27 (.agg ([.int .i64 kd, .int .i64 rl, .int .i64 lv, .bool ng, a, b, kids])) [.int .i64 kd, .int .i64 rl, .int .i64 lv, .bool ng, a, b, kids] rfl (oc1 rfl (oc1 rfl (oc1 rfl (oc1 rfl (oc1 (one_of_flat f_a) (oc1 (one_of_flat f_b) (oc1 (one_of_flat f_kids) oc0))))))) rfl (by kernel_rfl) fun q1 H28 hh29 => ?_
  refine WOps.run dr1 [(2, .int .i64 0)] (by kernel_rfl) ?_
  refine WOps.e0 (Th_n (W.seq (W.region ?_)))
  refine WOps.run dr1 [(3, .int .i64 0)] (by kernel_rfl) ?_
  refine WOps.e0 (Th_n (W.seq (W.seq (W.region ?_))))
  refine o_ld hh29 0 0 (.agg ([.int .i64 kd, .int .i64 rl, .int .i64 lv, .bool ng, a, b, kids])) rfl rfl (by kernel_rfl) ?_
  refine o_call (ys := [.agg ([.int .i64 kd, .int .i64 rl, .int .i64 lv, .bool ng, a, b, kids])]) (vcons (vagg (vflats (fc rfl (fc rfl (fc rfl (fc rfl (fc f_a (fc f_b (fc f_kids fn0))))))))) vnil) (pPolys_con d N _ hm' hd hN) rfl (by kernel_rfl) fun z Oz hz => ?_
  obtain ⟨len, hzl, hlen⟩ := hz
  have f_z := hzl.flat
  refine o_vb (.int .i64 (len : Nat)) (hzl.len P27 _) (by kernel_rfl) ?_
  refine WOps.run dr1 [(9, .int .i64 0)] (by kernel_rfl) ?_
  refine WOps.e0 (Th_n (W.blk ?_))
  generalize hps : rpolys 12 [.int .i64 kd, .int .i64 rl, .int .i64 lv, .bool ng, a, b, kids] = ps at hzl hlen hcv hlen12
  refine W.lp (fun T u T1 H1 => ∃ (t5 t10 t11 t12 t13 t14 t15 t16 t17 : AV) (i : Nat) (c : Int), ups T [(3, .int .i64 c), (5, t5), (9, .int .i64 (i : Nat)), (10, t10), (11, t11), (12, t12), (13, t13), (14, t14), (15, t15), (16, t16), (17, t17)] = T1 ∧ Has H1 [(q1, .cells ([.int .i64 kd, .int .i64 rl, .int .i64 lv, .bool ng, a, b, kids]))] ∧ i + u = len ∧ c = maxl ((ps.take i).map lev)) (len) ⟨.undef, .undef, .undef, .undef, .undef, .undef, .undef, .undef, .undef, 0, 0, by kernel_rfl, hh29.pick [0] (by decide), Nat.zero_add _, rfl⟩ ?_
  rintro u _ H30 ⟨t5, t10, t11, t12, t13, t14, t15, t16, t17, i, c, rfl, hh31, hi, hc⟩
  refine W.seq (W.region ?_)
  by_cases hlt : i < len
  · refine o_v2 (.bool (decide (((i : Nat) : Int) < ((len : Nat) : Int)))) (.bool true) (congrArg AV.bool (decide_eq_true (by omega))) (by kernel_rfl) ?_
    refine WOps.e0 (Th_n (W.seq (W.condT (by kernel_rfl) (W.skip (Th_n (W.seq (W.blk (W.seq (W.region ?_)))))))))
    obtain ⟨p, lv3, ng3, a3, e3, hp, hld, hel, hpc⟩ := getPoly hcv hzl hlt
    obtain ⟨f_a3, f_e3, _⟩ := hpc.fl
    refine o_vk (p) (hp) (by kernel_rfl) ?_
    refine o_vk (.agg ([.int .i64 lv3, .bool ng3, a3, e3])) ((hld) H30) (by kernel_rfl) ?_
    refine o_al hh31 (.agg ([.int .i64 0, .bool false, .nilsl, .nilsl])) rfl (by kernel_rfl) fun q5 H32 hh33 => ?_
    refine o_st hh33 0 0 (.agg ([.int .i64 lv3, .bool ng3, a3, e3])) [.int .i64 lv3, .bool ng3, a3, e3] rfl rfl (oc1 rfl (oc1 rfl (oc1 (one_of_flat f_a3) (oc1 (one_of_flat f_e3) oc0)))) (by kernel_rfl) fun H34 hh35 => ?_
    refine WOps.e0 (Th_n (W.region ?_))
    refine WOps.run dr2 [(13, .int .i64 c), (14, .ptr q5 0)] (by kernel_rfl) ?_
    refine o_ld hh35 0 0 (.int .i64 lv3) rfl rfl (by kernel_rfl) ?_
    refine o_vb (.int .i64 (max c lv3)) (bmax [3, 3] _ c lv3) (by kernel_rfl) ?_
    refine WOps.run dr1 [(3, .int .i64 (max c lv3))] (by kernel_rfl) ?_
    refine WOps.e0 (Bk_n (Th_n (W.region ?_)))
    refine o_v2 (.int .i64 (IntKind.i64.wrap (((i : Nat) : Int) + (1 : Int)))) (.int .i64 (((i + 1 : Nat) : Int))) (congrArg (AV.int .i64) (by rw [wrapN] <;> omega)) (by kernel_rfl) ?_
    refine WOps.run dr1 [(9, .int .i64 ((i + 1 : Nat) : Int))] (by kernel_rfl) ?_
    refine WOps.e0 (Th_n ?_)
    exact ⟨u - 1, by omega, .ptr q5 0, .bool true, p, .agg ([.int .i64 lv3, .bool ng3, a3, e3]), .int .i64 c, .ptr q5 0, .int .i64 lv3, .int .i64 (max c lv3), .int .i64 ((i + 1 : Nat) : Int), i + 1, max c lv3, by kernel_rfl, hh35.pick [1] (by decide), by omega, by rw [take_lev hel, hc]; rfl⟩
  · refine o_v2 (.bool (decide (((i : Nat) : Int) < ((len : Nat) : Int)))) (.bool false) (congrArg AV.bool (decide_eq_false (by omega))) (by kernel_rfl) ?_
    refine WOps.e0 (Th_n (W.seq (W.condF (by kernel_rfl) (W.exit (Th_e (Th_e (Bk_s (Th_n (W.seq (W.region ?_))))))))))
    refine WOps.run dr2 [(18, .int .i64 c), (2, .int .i64 c)] (by kernel_rfl) ?_
    refine WOps.e0 (Th_n (W.ret ?_))
    have hil : i = len := by omega
    rw [hil, hlen, List.take_of_length_le (Nat.le_refl _)] at hc
    exact ret_t (r' := .int .i64 c) (congrArg (AV.int .i64) (by rw [hc, ← hps])) (.inr rfl) rfl (by kernel_rfl) (vflat rfl)

end Go.AX

/- AX, part 59: prenex.Not, Valid; the errors of package virtual. -/
set_option linter.unusedVariables false
set_option linter.unusedSimpArgs false
set_option maxRecDepth 4000
set_option maxHeartbeats 4000000
namespace Go.AX
open Go Go.RowKit Go.Proofs
attribute [local irreducible] WOps WD W

theorem seven {cs : List AV} (h : cs.length = 7) (hf : cs.all isFlat = true) : ∃ x0 x1 x2 x3 x4 x5 x6, cs = [x0, x1, x2, x3, x4, x5, x6] ∧ isFlat x0 = true ∧ isFlat x1 = true ∧ isFlat x2 = true ∧ isFlat x3 = true ∧ isFlat x4 = true ∧ isFlat x5 = true ∧ isFlat x6 = true := by
  match cs, h with
  | [x0, x1, x2, x3, x4, x5, x6], _ =>
    simp only [List.all_cons, List.all_nil, Bool.and_true, Bool.and_eq_true] at hf
    exact ⟨x0, x1, x2, x3, x4, x5, x6, rfl, hf.1, hf.2.1, hf.2.2.1, hf.2.2.2.1, hf.2.2.2.2.1, hf.2.2.2.2.2.1, hf.2.2.2.2.2.2⟩

theorem complement_con (n : Int) : Con 75 [.int .i64 n] (Sp1 75 [.int .i64 n]) := by
  refine con_ret (Sp := Sp1) Tryz.func75 rfl ?_
  show W (ES Sp1) _ _ ⟨[.int .i64 n] ++ List.replicate 13 .undef, []⟩
  have hh1 := @Has.nil ([] : Heap)
  refine W.seq (W.region ?_)
  refine WOps.run dr1 [(2, .int .i64 0)] (by kernel_rfl) ?_
  refine WOps.e0 (Th_n (W.seq (W.seq (W.region ?_))))
  refine WOps.run dr1 [(3, .int .i64 n)] (by kernel_rfl) ?_
  refine WOps.e0 (Th_n (W.blk (W.seq (W.region ?_))))
  by_cases h1 : n = 1
  · refine o_v2 (.bool (((n : Int) == (1 : Int)))) (.bool true) (congrArg AV.bool (beq_iff_eq.2 (h1))) (by kernel_rfl) ?_
    refine WOps.run dr1 [(4, .bool true)] (by kernel_rfl) ?_
    refine WOps.e0 (Th_n (W.condT (by kernel_rfl) (W.seq (W.region ?_))))
    refine WOps.run dr1 [(2, .int .i64 5)] (by kernel_rfl) ?_
    refine WOps.e0 (Th_n (W.ret (Bk_r (Th_r ?_))))
    exact ret_t (r' := .int .i64 5) (⟨_, rfl⟩) (.inr rfl) rfl (by kernel_rfl) (vflat rfl)
  · refine o_v2 (.bool (((n : Int) == (1 : Int)))) (.bool false) (congrArg AV.bool (beq_eq_false_iff_ne.2 (h1))) (by kernel_rfl) ?_
    refine WOps.run dr1 [(4, .bool false)] (by kernel_rfl) ?_
    refine WOps.e0 (Th_n (W.condF (by kernel_rfl) (W.seq (W.region ?_))))
    by_cases h2 : n = 2
    · refine o_v2 (.bool (((n : Int) == (2 : Int)))) (.bool true) (congrArg AV.bool (beq_iff_eq.2 (h2))) (by kernel_rfl) ?_
      refine WOps.run dr1 [(6, .bool true)] (by kernel_rfl) ?_
      refine WOps.e0 (Th_n (W.condT (by kernel_rfl) (W.seq (W.region ?_))))
      refine WOps.run dr1 [(2, .int .i64 6)] (by kernel_rfl) ?_
      refine WOps.e0 (Th_n (W.ret (Bk_r (Th_r ?_))))
      exact ret_t (r' := .int .i64 6) (⟨_, rfl⟩) (.inr rfl) rfl (by kernel_rfl) (vflat rfl)
    · refine o_v2 (.bool (((n : Int) == (2 : Int)))) (.bool false) (congrArg AV.bool (beq_eq_false_iff_ne.2 (h2))) (by kernel_rfl) ?_
      refine WOps.run dr1 [(6, .bool false)] (by kernel_rfl) ?_
      refine WOps.e0 (Th_n (W.condF (by kernel_rfl) (W.seq (W.region ?_))))
      by_cases h4 : n = 4
      · refine o_v2 (.bool (((n : Int) == (4 : Int)))) (.bool true) (congrArg AV.bool (beq_iff_eq.2 (h4))) (by kernel_rfl) ?_
        refine WOps.run dr1 [(8, .bool true)] (by kernel_rfl) ?_
        refine WOps.e0 (Th_n (W.condT (by kernel_rfl) (W.seq (W.region ?_))))
        refine WOps.run dr1 [(2, .int .i64 3)] (by kernel_rfl) ?_
        refine WOps.e0 (Th_n (W.ret (Bk_r (Th_r ?_))))
        exact ret_t (r' := .int .i64 3) (⟨_, rfl⟩) (.inr rfl) rfl (by kernel_rfl) (vflat rfl)
      · refine o_v2 (.bool (((n : Int) == (4 : Int)))) (.bool false) (congrArg AV.bool (beq_eq_false_iff_ne.2 (h4))) (by kernel_rfl) ?_
        refine WOps.run dr1 [(8, .bool false)] (by kernel_rfl) ?_
        refine WOps.e0 (Th_n (W.condF (by kernel_rfl) (W.seq (W.region ?_))))
        by_cases h5 : n = 5
        · refine o_v2 (.bool (((n : Int) == (5 : Int)))) (.bool true) (congrArg AV.bool (beq_iff_eq.2 (h5))) (by kernel_rfl) ?_
          refine WOps.run dr1 [(10, .bool true)] (by kernel_rfl) ?_
          refine WOps.e0 (Th_n (W.condT (by kernel_rfl) (W.seq (W.region ?_))))
          refine WOps.run dr1 [(2, .int .i64 1)] (by kernel_rfl) ?_
          refine WOps.e0 (Th_n (W.ret (Bk_r (Th_r ?_))))
          exact ret_t (r' := .int .i64 1) (⟨_, rfl⟩) (.inr rfl) rfl (by kernel_rfl) (vflat rfl)
        · refine o_v2 (.bool (((n : Int) == (5 : Int)))) (.bool false) (congrArg AV.bool (beq_eq_false_iff_ne.2 (h5))) (by kernel_rfl) ?_
          refine WOps.run dr1 [(10, .bool false)] (by kernel_rfl) ?_
          refine WOps.e0 (Th_n (W.condF (by kernel_rfl) (W.seq (W.region ?_))))
          by_cases h6 : n = 6
          · refine o_v2 (.bool (((n : Int) == (6 : Int)))) (.bool true) (congrArg AV.bool (beq_iff_eq.2 (h6))) (by kernel_rfl) ?_
            refine WOps.run dr1 [(12, .bool true)] (by kernel_rfl) ?_
            refine WOps.e0 (Th_n (W.condT (by kernel_rfl) (W.seq (W.region ?_))))
            refine WOps.run dr1 [(2, .int .i64 2)] (by kernel_rfl) ?_
            refine WOps.e0 (Th_n (W.ret (Bk_r (Th_r ?_))))
            exact ret_t (r' := .int .i64 2) (⟨_, rfl⟩) (.inr rfl) rfl (by kernel_rfl) (vflat rfl)
          · refine o_v2 (.bool (((n : Int) == (6 : Int)))) (.bool false) (congrArg AV.bool (beq_eq_false_iff_ne.2 (h6))) (by kernel_rfl) ?_
            refine WOps.run dr1 [(12, .bool false)] (by kernel_rfl) ?_
            refine WOps.e0 (Th_n (W.condF (by kernel_rfl) (W.skip (Bk_n (Th_n (W.seq (W.region ?_)))))))
            refine WOps.run dr1 [(2, .int .i64 4)] (by kernel_rfl) ?_
            refine WOps.e0 (Th_n (W.ret ?_))
            exact ret_t (r' := .int .i64 4) (⟨_, rfl⟩) (.inr rfl) rfl (by kernel_rfl) (vflat rfl)

theorem known_con (n : Int) : Con 76 [.int .i64 n] (Sp1 76 [.int .i64 n]) := by
  refine con_ret (Sp := Sp1) Tryz.func76 rfl ?_
  show W (ES Sp1) _ _ ⟨[.int .i64 n] ++ List.replicate 9 .undef, []⟩
  have hh2 := @Has.nil ([] : Heap)
  refine W.seq (W.region ?_)
  refine WOps.run dr1 [(2, .int .i64 0)] (by kernel_rfl) ?_
  refine WOps.e0 (Th_n (W.seq (W.seq (W.region ?_))))
  refine WOps.run dr1 [(3, .int .i64 n)] (by kernel_rfl) ?_
  by_cases h1 : n < 1
  · refine o_v2 (.bool (decide ((n : Int) < (1 : Int)))) (.bool true) (congrArg AV.bool (decide_eq_true (h1))) (by kernel_rfl) ?_
    refine WOps.run dr4 [(5, .bool true), (6, .undef), (7, .undef), (8, .bool true)] (by kernel_rfl) ?_
    refine WOps.e0 (Th_n (W.condT (by kernel_rfl) (W.seq (W.region ?_))))
    refine WOps.run dr1 [(2, .int .i64 3)] (by kernel_rfl) ?_
    refine WOps.e0 (Th_n (W.ret (Th_r ?_)))
    exact ret_t (r' := .int .i64 3) (⟨_, rfl⟩) (.inr rfl) rfl (by kernel_rfl) (vflat rfl)
  · refine o_v2 (.bool (decide ((n : Int) < (1 : Int)))) (.bool false) (congrArg AV.bool (decide_eq_false (h1))) (by kernel_rfl) ?_
    refine WOps.run dr2 [(5, .bool false), (6, .int .i64 n)] (by kernel_rfl) ?_
    by_cases h6 : n > 6
    · refine o_v2 (.bool (decide ((n : Int) > (6 : Int)))) (.bool true) (congrArg AV.bool (decide_eq_true (h6))) (by kernel_rfl) ?_
      refine WOps.run dr1 [(8, .bool true)] (by kernel_rfl) ?_
      refine WOps.e0 (Th_n (W.condT (by kernel_rfl) (W.seq (W.region ?_))))
      refine WOps.run dr1 [(2, .int .i64 3)] (by kernel_rfl) ?_
      refine WOps.e0 (Th_n (W.ret (Th_r ?_)))
      exact ret_t (r' := .int .i64 3) (⟨_, rfl⟩) (.inr rfl) rfl (by kernel_rfl) (vflat rfl)
    · refine o_v2 (.bool (decide ((n : Int) > (6 : Int)))) (.bool false) (congrArg AV.bool (decide_eq_false (h6))) (by kernel_rfl) ?_
      refine WOps.run dr1 [(8, .bool false)] (by kernel_rfl) ?_
      refine WOps.e0 (Th_n (W.condF (by kernel_rfl) (W.skip (Th_n (W.seq (W.region ?_))))))
      refine WOps.run dr2 [(9, .int .i64 n), (2, .int .i64 n)] (by kernel_rfl) ?_
      refine WOps.e0 (Th_n (W.ret ?_))
      exact ret_t (r' := .int .i64 n) (⟨_, rfl⟩) (.inr rfl) rfl (by kernel_rfl) (vflat rfl)

theorem pNot_con : ∀ (d N : Nat) (m : List AV), MV d N m → N ≤ 2 ^ 20 → Con 35 [.agg m] (Sp1 35 [.agg m]) := by
  intro d
  induction d with
  | zero => intro N m h; exact h.elim
  | succ d ih =>
    intro N m hm hN
    have hm' := hm
    obtain ⟨kd, rl, lv, ng, a, b, kids, lk, f, rfl, hpo, hk, hsum⟩ := hm
    obtain ⟨_, _, _, _, e, f_a, f_b⟩ := (hpo.tp (by omega) (by omega) 6).shape
    simp at e
    obtain ⟨_, _, rfl, rfl⟩ := e
    have f_kids := hk.flat
    have hlkN : lk ≤ sumN f lk := sumN_ge fun i hi => (hk.el.2 i _ (List.getElem?_eq_getElem (by rw [hk.el.1]; exact hi))).pos
    refine con_ret (Sp := Sp1) Tryz.func35 rfl ?_
    show W (ES Sp1) _ _ ⟨[.agg ([.int .i64 kd, .int .i64 rl, .int .i64 lv, .bool ng, a, b, kids])] ++ List.replicate 44 .undef, []⟩
    have hh3 := @Has.nil ([] : Heap)
    refine W.seq (W.region ?_)
    refine o_bx hh3 (.agg ([.int .i64 kd, .int .i64 rl, .int .i64 lv, .bool ng, a, b, kids])) [.int .i64 kd, .int .i64 rl, .int .i64 lv, .bool ng, a, b, kids] rfl (oc1 rfl (oc1 rfl (oc1 rfl (oc1 rfl (oc1 (one_of_flat f_a) (oc1 (one_of_flat f_b) (oc1 (one_of_flat f_kids) oc0))))))) rfl (by kernel_rfl) fun q1 H4 hh5 => ?_
    refine o_al hh5 (.agg ([.int .i64 0, .int .i64 0, .int .i64 0, .bool false, .nilsl, .nilsl, .nilsl])) rfl (by kernel_rfl) fun q2 H6 hh7 => ?_
    refine WOps.e0 (Th_n (W.seq (W.seq (W.region ?_))))
    refine WOps.run dr1 [(6, .ptr q1 0)] (by kernel_rfl) ?_
    refine o_ld hh7 1 0 (.int .i64 kd) rfl rfl (by kernel_rfl) ?_
    refine WOps.e0 (Th_n (W.blk (W.seq (W.region ?_))))
    by_cases k1 : kd = 1
    · subst k1
      refine WOps.run dr2 [(9, .bool true), (8, .bool true)] (by kernel_rfl) ?_
      refine WOps.e0 (Th_n (W.condT (by kernel_rfl) (W.seq (W.region ?_))))
      refine WOps.run dr1 [(10, .agg ([.int .i64 0, .int .i64 0, .int .i64 0, .bool false, .nilsl, .nilsl, .nilsl]))] (by kernel_rfl) ?_
      refine o_st hh7 0 0 (.agg ([.int .i64 0, .int .i64 0, .int .i64 0, .bool false, .nilsl, .nilsl, .nilsl])) [.int .i64 0, .int .i64 0, .int .i64 0, .bool false, .nilsl, .nilsl, .nilsl] rfl rfl rfl (by kernel_rfl) fun H8 hh9 => ?_
      refine WOps.e0 (Th_n (W.ret (Bk_r (Th_r ?_))))
      exact ret_c (r' := .agg ([.int .i64 0, .int .i64 0, .int .i64 0, .bool false, .nilsl, .nilsl, .nilsl])) (id := q2) (off := 0) (r := .agg ([.int .i64 0, .int .i64 0, .int .i64 0, .bool false, .nilsl, .nilsl, .nilsl])) (⟨_, rfl, rfl, rfl⟩) hh9 0 rfl (.inr rfl) rfl (by kernel_rfl) (by kernel_rfl) (vagg (vflats rfl))
    · refine o_v2 (.bool (((kd : Int) == (1 : Int)))) (.bool false) (congrArg AV.bool (beq_eq_false_iff_ne.2 (k1))) (by kernel_rfl) ?_
      refine WOps.run dr1 [(8, .bool false)] (by kernel_rfl) ?_
      refine WOps.e0 (Th_n (W.condF (by kernel_rfl) (W.seq (W.region ?_))))
      by_cases k2 : kd = 2
      · subst k2
        refine WOps.run dr2 [(12, .bool true), (11, .bool true)] (by kernel_rfl) ?_
        refine WOps.e0 (Th_n (W.condT (by kernel_rfl) (W.seq ?_)))
        refine W.rl false hh7 [1] (by decide) _ rfl (by kernel_rfl) ?_
        refine WD.run dr1 [(13, .ptr q1 1)] (by kernel_rfl) ?_
        refine d_ld hh7 [1] (by decide) rfl 0 1 (.int .i64 rl) rfl rfl (by kernel_rfl) ?_
        refine d_call (ys := [.int .i64 rl]) hh7 [1] (by decide) rfl (vflats rfl) (known_con rl) rfl (by kernel_rfl) fun y Oy hy => ?_
        obtain ⟨r2, rfl⟩ := hy
        refine d_call (ys := [.int .i64 r2]) hh7 [1] (by decide) rfl (vflats rfl) (complement_con r2) rfl (by kernel_rfl) fun x Ox hx => ?_
        obtain ⟨r3, rfl⟩ := hx
        refine WD.run dr1 [(17, .ptr q1 2)] (by kernel_rfl) ?_
        refine d_ld hh7 [1] (by decide) rfl 0 2 (.agg ([.int .i64 lv, .bool ng, a, b])) rfl rfl (by kernel_rfl) ?_
        refine d_call (ys := [.agg ([.int .i64 lv, .bool ng, a, b])]) hh7 [1] (by decide) rfl (vcons (vagg (vflats (fc rfl (fc rfl (fc f_a (fc f_b fn0)))))) vnil) (pNormal_spec hpo (by omega) (by decide) (by decide)) rfl (by kernel_rfl) fun z Oz hz => ?_
        obtain ⟨zc, rfl, hzv⟩ := hz 6 12 4 hpo
        obtain ⟨lv2, ng2, a2, e2, rfl, ha2, f_e2⟩ := hzv.pv
        have f_a2 := nv_flat ha2
        refine WD.run dr1 [(20, .agg ([.int .i64 2, .int .i64 r3, .int .i64 lv2, .bool ng2, a2, e2, .nilsl]))] (by kernel_rfl) ?_
        refine d_last .undef (m_st (P := Tryz.prog) (t := 32) hh7 0 0 (.agg ([.int .i64 2, .int .i64 r3, .int .i64 lv2, .bool ng2, a2, e2, .nilsl])) [.int .i64 2, .int .i64 r3, .int .i64 lv2, .bool ng2, a2, e2, .nilsl] rfl [.int .i64 2, .int .i64 r3, .int .i64 lv2, .bool ng2, a2, e2, .nilsl] rfl (oc1 rfl (oc1 rfl (oc1 rfl (oc1 rfl (oc1 (one_of_flat f_a2) (oc1 (one_of_flat f_e2) (oc1 rfl oc0))))))) (by kernel_rfl)) (by kernel_rfl) fun H10 hh11 => ?_
        refine WD.e0 (Th_n (W.ret (Bk_r (Th_r ?_))))
        exact ret_c (r' := .agg ([.int .i64 2, .int .i64 r3, .int .i64 lv2, .bool ng2, a2, e2, .nilsl])) (id := q2) (off := 0) (r := .agg ([.int .i64 2, .int .i64 r3, .int .i64 lv2, .bool ng2, a2, e2, .nilsl])) (⟨_, rfl, rfl, fc rfl (fc rfl (fc rfl (fc rfl (fc f_a2 (fc f_e2 (fc rfl fn0))))))⟩) hh11 0 rfl (.inr rfl) rfl (by kernel_rfl) (by kernel_rfl) (vagg (vflats (fc rfl (fc rfl (fc rfl (fc rfl (fc f_a2 (fc f_e2 (fc rfl fn0)))))))))
      · refine o_v2 (.bool (((kd : Int) == (2 : Int)))) (.bool false) (congrArg AV.bool (beq_eq_false_iff_ne.2 (k2))) (by kernel_rfl) ?_
        refine WOps.run dr1 [(11, .bool false)] (by kernel_rfl) ?_
        refine WOps.e0 (Th_n (W.condF (by kernel_rfl) (W.seq (W.seq (W.region ?_)))))
        by_cases k3 : kd = 3
        · subst k3
          refine WOps.run dr2 [(22, .bool true), (21, .bool true)] (by kernel_rfl) ?_
          refine WOps.e0 (Th_n (W.condT (by kernel_rfl) (W.skip (Th_n (W.condT (by kernel_rfl) (W.seq (W.region ?_)))))))
          refine WOps.run dr1 [(24, .ptr q1 0)] (by kernel_rfl) ?_
          refine o_ld hh7 1 0 (.int .i64 3) rfl rfl (by kernel_rfl) ?_
          refine WOps.run dr2 [(26, .int .i64 4), (27, .agg ([.int .i64 4, .int .i64 0, .int .i64 0, .bool false, .nilsl, .nilsl, .nilsl]))] (by kernel_rfl) ?_
          refine o_al hh7 (.agg ([.int .i64 0, .int .i64 0, .int .i64 0, .bool false, .nilsl, .nilsl, .nilsl])) rfl (by kernel_rfl) fun q3 H12 hh13 => ?_
          refine o_st hh13 0 0 (.agg ([.int .i64 4, .int .i64 0, .int .i64 0, .bool false, .nilsl, .nilsl, .nilsl])) [.int .i64 4, .int .i64 0, .int .i64 0, .bool false, .nilsl, .nilsl, .nilsl] rfl rfl rfl (by kernel_rfl) fun H14 hh15 => ?_
          refine WOps.e0 (Th_n (W.seq (W.seq (W.region ?_))))
          refine WOps.run dr1 [(28, .ptr q1 6)] (by kernel_rfl) ?_
          refine o_ld hh15 2 6 (kids) rfl rfl (by kernel_rfl) ?_
          refine o_vb (.int .i64 (lk : Nat)) (hk.len P30 _) (by kernel_rfl) ?_
          refine WOps.run dr1 [(31, .int .i64 0)] (by kernel_rfl) ?_
          refine WOps.e0 (Th_n (W.blk ?_))
          refine W.lp (fun T u T1 H1 => ∃ (t5 t32 t33 t34 t35 t36 t37 t38 t39 t40 t41 t42 : AV) (i : Nat) (K : AV) (ex : Kn), ups T [(5, t5), (31, .int .i64 (i : Nat)), (32, t32), (33, t33), (34, t34), (35, t35), (36, t36), (37, t37), (38, t38), (39, t39), (40, t40), (41, t41), (42, t42)] = T1 ∧ Has H1 ([(q1, .cells ([.int .i64 3, .int .i64 rl, .int .i64 lv, .bool ng, a, b, kids])), (q2, .cells ([.int .i64 0, .int .i64 0, .int .i64 0, .bool false, .nilsl, .nilsl, .nilsl])), (q3, .cells ([.int .i64 4, .int .i64 0, .int .i64 0, .bool false, .nilsl, .nilsl, K]))] ++ ex) ∧ i + u = lk ∧ Gth 7 (fun _ _ => True) K i ex) (lk) ⟨.undef, .undef, .undef, .undef, .undef, .undef, .undef, .undef, .undef, .undef, .undef, .undef, 0, .nilsl, [], by kernel_rfl, hh15.pick [2, 1, 0] (by decide), Nat.zero_add _, .inl ⟨rfl, rfl, rfl⟩⟩ ?_
          rintro u _ H16 ⟨t5, t32, t33, t34, t35, t36, t37, t38, t39, t40, t41, t42, i, K, ex, rfl, hh17, hi, g⟩
          refine W.seq (W.region ?_)
          have o_K := g.one
          have c_K := g.cells
          by_cases hlt : i < lk
          · refine o_v2 (.bool (decide (((i : Nat) : Int) < ((lk : Nat) : Int)))) (.bool true) (congrArg AV.bool (decide_eq_true (by omega))) (by kernel_rfl) ?_
            refine WOps.e0 (Th_n (W.seq (W.condT (by kernel_rfl) (W.skip (Th_n (W.seq (W.blk (W.seq (W.region ?_)))))))))
            obtain ⟨pp, cs, hpp, hld, hcs, hel⟩ := hk.gete P30 size32 agg32 hlt
            have hcs' := hcs
            obtain ⟨kd2, rl2, lv2, ng2, a2, e2, kids2, rfl, f_a2, f_e2, f_kids2⟩ := hcs.shape
            refine o_vk (pp) (hpp) (by kernel_rfl) ?_
            refine o_vk (.agg ([.int .i64 kd2, .int .i64 rl2, .int .i64 lv2, .bool ng2, a2, e2, kids2])) ((hld) H16) (by kernel_rfl) ?_
            refine o_al hh17 (.agg ([.int .i64 0, .int .i64 0, .int .i64 0, .bool false, .nilsl, .nilsl, .nilsl])) rfl (by kernel_rfl) fun q5 H18 hh19 => ?_
            refine o_st hh19 0 0 (.agg ([.int .i64 kd2, .int .i64 rl2, .int .i64 lv2, .bool ng2, a2, e2, kids2])) [.int .i64 kd2, .int .i64 rl2, .int .i64 lv2, .bool ng2, a2, e2, kids2] rfl rfl (oc1 rfl (oc1 rfl (oc1 rfl (oc1 rfl (oc1 (one_of_flat f_a2) (oc1 (one_of_flat f_e2) (oc1 (one_of_flat f_kids2) oc0))))))) (by kernel_rfl) fun H20 hh21 => ?_
            refine WOps.e0 (Th_n ?_)
            have hfi := sumN_mem f hlt
            refine W.rl false hh21 [3, 0] (by decide) _ rfl (by kernel_rfl) ?_
            refine WD.run dr1 [(35, .ptr q3 6)] (by kernel_rfl) ?_
            refine d_ld hh21 [3, 0] (by decide) rfl 0 6 (K) rfl rfl (by kernel_rfl) ?_
            refine d_ld hh21 [3, 0] (by decide) rfl 1 0 (.agg ([.int .i64 kd2, .int .i64 rl2, .int .i64 lv2, .bool ng2, a2, e2, kids2])) rfl rfl (by kernel_rfl) ?_
            refine d_call (ys := [.agg ([.int .i64 kd2, .int .i64 rl2, .int .i64 lv2, .bool ng2, a2, e2, kids2])]) hh21 [3, 0] (by decide) rfl (vcons (vagg (vflats (fc rfl (fc rfl (fc rfl (fc rfl (fc f_a2 (fc f_e2 (fc f_kids2 fn0))))))))) vnil) (ih _ _ hcs' (by omega)) rfl (by kernel_rfl) fun z Oz hz => ?_
            obtain ⟨zc, rfl, hz7, hzf⟩ := hz
            obtain ⟨x0, x1, x2, x3, x4, x5, x6, rfl, f_x0, f_x1, f_x2, f_x3, f_x4, f_x5, f_x6⟩ := seven hz7 hzf
            refine d_bs hh21 [x0, x1, x2, x3, x4, x5, x6] (ps := [(0, .agg ([x0, x1, x2, x3, x4, x5, x6]))]) (qs := [(0, [x0, x1, x2, x3, x4, x5, x6])]) (.c rfl .n) (oc1 (one_of_flat f_x0) (oc1 (one_of_flat f_x1) (oc1 (one_of_flat f_x2) (oc1 (one_of_flat f_x3) (oc1 (one_of_flat f_x4) (oc1 (one_of_flat f_x5) (oc1 (one_of_flat f_x6) oc0))))))) [4, 1] (by decide) (fun _ => rfl) rfl rfl rfl rfl (by kernel_rfl) fun q39 H22 hh23 => ?_
            obtain ⟨K2, ex2, e24, g2⟩ := gth_push [(q39, .cells ([x0, x1, x2, x3, x4, x5, x6])), (q5, .cells ([.int .i64 kd2, .int .i64 rl2, .int .i64 lv2, .bool ng2, a2, e2, kids2])), (q1, .cells ([.int .i64 3, .int .i64 rl, .int .i64 lv, .bool ng, a, b, kids])), (q2, .cells ([.int .i64 0, .int .i64 0, .int .i64 0, .bool false, .nilsl, .nilsl, .nilsl])), (q3, .cells ([.int .i64 4, .int .i64 0, .int .i64 0, .bool false, .nilsl, .nilsl, K]))] 30 32 0 g hh23 P30 size32 bytes32 (by kernel_rfl) rfl rfl hzf trivial (by unfold roomA; omega)
            refine d_gen K2 (L := ([(q39, .cells ([x0, x1, x2, x3, x4, x5, x6])), (q5, .cells ([.int .i64 kd2, .int .i64 rl2, .int .i64 lv2, .bool ng2, a2, e2, kids2])), (q1, .cells ([.int .i64 3, .int .i64 rl, .int .i64 lv, .bool ng, a, b, kids])), (q2, .cells ([.int .i64 0, .int .i64 0, .int .i64 0, .bool false, .nilsl, .nilsl, .nilsl])), (q3, .cells ([.int .i64 4, .int .i64 0, .int .i64 0, .bool false, .nilsl, .nilsl, K]))] ++ ex2)) e24 [4, 1] (by decide) rfl (by kernel_rfl) fun H25 hh26 => ?_
            have o_K2 := g2.one
            have c_K2 := g2.cells
            refine WD.run dr1 [(41, .ptr q3 6)] (by kernel_rfl) ?_
            refine d_last .undef (m_st (P := Tryz.prog) (t := 30) hh26 4 6 (K2) [K2] c_K2 [.int .i64 4, .int .i64 0, .int .i64 0, .bool false, .nilsl, .nilsl, K2] rfl (oc1 o_K2 oc0) (by kernel_rfl)) (by kernel_rfl) fun H27 hh28 => ?_
            refine WD.e0 (Bk_n (Th_n (W.region ?_)))
            refine o_v2 (.int .i64 (IntKind.i64.wrap (((i : Nat) : Int) + (1 : Int)))) (.int .i64 (((i + 1 : Nat) : Int))) (congrArg (AV.int .i64) (by rw [wrapN] <;> omega)) (by kernel_rfl) ?_
            refine WOps.run dr1 [(31, .int .i64 ((i + 1 : Nat) : Int))] (by kernel_rfl) ?_
            refine WOps.e0 (Th_n ?_)
            exact ⟨u - 1, by omega, .ptr q5 0, .bool true, pp, .agg ([.int .i64 kd2, .int .i64 rl2, .int .i64 lv2, .bool ng2, a2, e2, kids2]), .ptr q3 6, K, .agg ([.int .i64 kd2, .int .i64 rl2, .int .i64 lv2, .bool ng2, a2, e2, kids2]), .agg ([x0, x1, x2, x3, x4, x5, x6]), .sl q39 0 1 7 (some 1), K2, .ptr q3 6, .int .i64 ((i + 1 : Nat) : Int), i + 1, K2, ex2, by kernel_rfl, hh28.pickt [(q39, .cells ([x0, x1, x2, x3, x4, x5, x6])), (q5, .cells ([.int .i64 kd2, .int .i64 rl2, .int .i64 lv2, .bool ng2, a2, e2, kids2])), (q1, .cells ([.int .i64 3, .int .i64 rl, .int .i64 lv, .bool ng, a, b, kids])), (q2, .cells ([.int .i64 0, .int .i64 0, .int .i64 0, .bool false, .nilsl, .nilsl, .nilsl])), (q3, .cells ([.int .i64 4, .int .i64 0, .int .i64 0, .bool false, .nilsl, .nilsl, K2]))] [2, 3, 4] (by decide) rfl, by omega, g2⟩
          · refine o_v2 (.bool (decide (((i : Nat) : Int) < ((lk : Nat) : Int)))) (.bool false) (congrArg AV.bool (decide_eq_false (by omega))) (by kernel_rfl) ?_
            refine WOps.e0 (Th_n (W.seq (W.condF (by kernel_rfl) (W.exit (Th_e (Th_e (Bk_s (Th_n (W.seq (W.region ?_))))))))))
            refine o_ld hh17 2 0 (.agg ([.int .i64 4, .int .i64 0, .int .i64 0, .bool false, .nilsl, .nilsl, K])) rfl rfl (by kernel_rfl) ?_
            refine o_st hh17 1 0 (.agg ([.int .i64 4, .int .i64 0, .int .i64 0, .bool false, .nilsl, .nilsl, K])) [.int .i64 4, .int .i64 0, .int .i64 0, .bool false, .nilsl, .nilsl, K] rfl rfl (oc1 rfl (oc1 rfl (oc1 rfl (oc1 rfl (oc1 rfl (oc1 rfl (oc1 o_K oc0))))))) (by kernel_rfl) fun H29 hh30 => ?_
            refine WOps.e0 (Th_n (W.ret (Bk_r (Th_r ?_))))
            obtain ⟨K9, w_K, v_K, l_K9, f_K9⟩ := g.view [(q1, .cells ([.int .i64 3, .int .i64 rl, .int .i64 lv, .bool ng, a, b, kids])), (q2, .cells ([.int .i64 4, .int .i64 0, .int .i64 0, .bool false, .nilsl, .nilsl, K])), (q3, .cells ([.int .i64 4, .int .i64 0, .int .i64 0, .bool false, .nilsl, .nilsl, K]))] hh30
            exact ret_c (r' := .agg ([.int .i64 4, .int .i64 0, .int .i64 0, .bool false, .nilsl, .nilsl, K9])) (id := q2) (off := 0) (r := .agg ([.int .i64 4, .int .i64 0, .int .i64 0, .bool false, .nilsl, .nilsl, K])) (⟨_, rfl, rfl, fc rfl (fc rfl (fc rfl (fc rfl (fc rfl (fc rfl (fc f_K9 fn0))))))⟩) hh30 1 rfl (.inr rfl) rfl (by kernel_rfl) (by kernel_rfl) (vagg (vcons (vflat rfl) (vcons (vflat rfl) (vcons (vflat rfl) (vcons (vflat rfl) (vcons (vflat rfl) (vcons (vflat rfl) (vcons (v_K _) vnil))))))))
        · refine o_v2 (.bool (((kd : Int) == (3 : Int)))) (.bool false) (congrArg AV.bool (beq_eq_false_iff_ne.2 (k3))) (by kernel_rfl) ?_
          refine WOps.run dr1 [(21, .bool false)] (by kernel_rfl) ?_
          refine WOps.e0 (Th_n (W.condF (by kernel_rfl) (W.region ?_)))
          by_cases k4 : kd = 4
          · subst k4
            refine WOps.run dr2 [(23, .bool true), (21, .bool true)] (by kernel_rfl) ?_
            refine WOps.e0 (Th_n (W.condT (by kernel_rfl) (W.seq (W.region ?_))))
            refine WOps.run dr1 [(24, .ptr q1 0)] (by kernel_rfl) ?_
            refine o_ld hh7 1 0 (.int .i64 4) rfl rfl (by kernel_rfl) ?_
            refine WOps.run dr2 [(26, .int .i64 3), (27, .agg ([.int .i64 3, .int .i64 0, .int .i64 0, .bool false, .nilsl, .nilsl, .nilsl]))] (by kernel_rfl) ?_
            refine o_al hh7 (.agg ([.int .i64 0, .int .i64 0, .int .i64 0, .bool false, .nilsl, .nilsl, .nilsl])) rfl (by kernel_rfl) fun q3 H31 hh32 => ?_
            refine o_st hh32 0 0 (.agg ([.int .i64 3, .int .i64 0, .int .i64 0, .bool false, .nilsl, .nilsl, .nilsl])) [.int .i64 3, .int .i64 0, .int .i64 0, .bool false, .nilsl, .nilsl, .nilsl] rfl rfl rfl (by kernel_rfl) fun H33 hh34 => ?_
            refine WOps.e0 (Th_n (W.seq (W.seq (W.region ?_))))
            refine WOps.run dr1 [(28, .ptr q1 6)] (by kernel_rfl) ?_
            refine o_ld hh34 2 6 (kids) rfl rfl (by kernel_rfl) ?_
            refine o_vb (.int .i64 (lk : Nat)) (hk.len P30 _) (by kernel_rfl) ?_
            refine WOps.run dr1 [(31, .int .i64 0)] (by kernel_rfl) ?_
            refine WOps.e0 (Th_n (W.blk ?_))
            refine W.lp (fun T u T1 H1 => ∃ (t5 t32 t33 t34 t35 t36 t37 t38 t39 t40 t41 t42 : AV) (i : Nat) (K : AV) (ex : Kn), ups T [(5, t5), (31, .int .i64 (i : Nat)), (32, t32), (33, t33), (34, t34), (35, t35), (36, t36), (37, t37), (38, t38), (39, t39), (40, t40), (41, t41), (42, t42)] = T1 ∧ Has H1 ([(q1, .cells ([.int .i64 4, .int .i64 rl, .int .i64 lv, .bool ng, a, b, kids])), (q2, .cells ([.int .i64 0, .int .i64 0, .int .i64 0, .bool false, .nilsl, .nilsl, .nilsl])), (q3, .cells ([.int .i64 3, .int .i64 0, .int .i64 0, .bool false, .nilsl, .nilsl, K]))] ++ ex) ∧ i + u = lk ∧ Gth 7 (fun _ _ => True) K i ex) (lk) ⟨.undef, .undef, .undef, .undef, .undef, .undef, .undef, .undef, .undef, .undef, .undef, .undef, 0, .nilsl, [], by kernel_rfl, hh34.pick [2, 1, 0] (by decide), Nat.zero_add _, .inl ⟨rfl, rfl, rfl⟩⟩ ?_
            rintro u _ H35 ⟨t5, t32, t33, t34, t35, t36, t37, t38, t39, t40, t41, t42, i, K, ex, rfl, hh36, hi, g⟩
            refine W.seq (W.region ?_)
            have o_K := g.one
            have c_K := g.cells
            by_cases hlt : i < lk
            · refine o_v2 (.bool (decide (((i : Nat) : Int) < ((lk : Nat) : Int)))) (.bool true) (congrArg AV.bool (decide_eq_true (by omega))) (by kernel_rfl) ?_
              refine WOps.e0 (Th_n (W.seq (W.condT (by kernel_rfl) (W.skip (Th_n (W.seq (W.blk (W.seq (W.region ?_)))))))))
              obtain ⟨pp, cs, hpp, hld, hcs, hel⟩ := hk.gete P30 size32 agg32 hlt
              have hcs' := hcs
              obtain ⟨kd2, rl2, lv2, ng2, a2, e2, kids2, rfl, f_a2, f_e2, f_kids2⟩ := hcs.shape
              refine o_vk (pp) (hpp) (by kernel_rfl) ?_
              refine o_vk (.agg ([.int .i64 kd2, .int .i64 rl2, .int .i64 lv2, .bool ng2, a2, e2, kids2])) ((hld) H35) (by kernel_rfl) ?_
              refine o_al hh36 (.agg ([.int .i64 0, .int .i64 0, .int .i64 0, .bool false, .nilsl, .nilsl, .nilsl])) rfl (by kernel_rfl) fun q5 H37 hh38 => ?_
              refine o_st hh38 0 0 (.agg ([.int .i64 kd2, .int .i64 rl2, .int .i64 lv2, .bool ng2, a2, e2, kids2])) [.int .i64 kd2, .int .i64 rl2, .int .i64 lv2, .bool ng2, a2, e2, kids2] rfl rfl (oc1 rfl (oc1 rfl (oc1 rfl (oc1 rfl (oc1 (one_of_flat f_a2) (oc1 (one_of_flat f_e2) (oc1 (one_of_flat f_kids2) oc0))))))) (by kernel_rfl) fun H39 hh40 => ?_
              refine WOps.e0 (Th_n ?_)
              have hfi := sumN_mem f hlt
              refine W.rl false hh40 [3, 0] (by decide) _ rfl (by kernel_rfl) ?_
              refine WD.run dr1 [(35, .ptr q3 6)] (by kernel_rfl) ?_
              refine d_ld hh40 [3, 0] (by decide) rfl 0 6 (K) rfl rfl (by kernel_rfl) ?_
              refine d_ld hh40 [3, 0] (by decide) rfl 1 0 (.agg ([.int .i64 kd2, .int .i64 rl2, .int .i64 lv2, .bool ng2, a2, e2, kids2])) rfl rfl (by kernel_rfl) ?_
              refine d_call (ys := [.agg ([.int .i64 kd2, .int .i64 rl2, .int .i64 lv2, .bool ng2, a2, e2, kids2])]) hh40 [3, 0] (by decide) rfl (vcons (vagg (vflats (fc rfl (fc rfl (fc rfl (fc rfl (fc f_a2 (fc f_e2 (fc f_kids2 fn0))))))))) vnil) (ih _ _ hcs' (by omega)) rfl (by kernel_rfl) fun z Oz hz => ?_
              obtain ⟨zc, rfl, hz7, hzf⟩ := hz
              obtain ⟨x0, x1, x2, x3, x4, x5, x6, rfl, f_x0, f_x1, f_x2, f_x3, f_x4, f_x5, f_x6⟩ := seven hz7 hzf
              refine d_bs hh40 [x0, x1, x2, x3, x4, x5, x6] (ps := [(0, .agg ([x0, x1, x2, x3, x4, x5, x6]))]) (qs := [(0, [x0, x1, x2, x3, x4, x5, x6])]) (.c rfl .n) (oc1 (one_of_flat f_x0) (oc1 (one_of_flat f_x1) (oc1 (one_of_flat f_x2) (oc1 (one_of_flat f_x3) (oc1 (one_of_flat f_x4) (oc1 (one_of_flat f_x5) (oc1 (one_of_flat f_x6) oc0))))))) [4, 1] (by decide) (fun _ => rfl) rfl rfl rfl rfl (by kernel_rfl) fun q39 H41 hh42 => ?_
              obtain ⟨K2, ex2, e43, g2⟩ := gth_push [(q39, .cells ([x0, x1, x2, x3, x4, x5, x6])), (q5, .cells ([.int .i64 kd2, .int .i64 rl2, .int .i64 lv2, .bool ng2, a2, e2, kids2])), (q1, .cells ([.int .i64 4, .int .i64 rl, .int .i64 lv, .bool ng, a, b, kids])), (q2, .cells ([.int .i64 0, .int .i64 0, .int .i64 0, .bool false, .nilsl, .nilsl, .nilsl])), (q3, .cells ([.int .i64 3, .int .i64 0, .int .i64 0, .bool false, .nilsl, .nilsl, K]))] 30 32 0 g hh42 P30 size32 bytes32 (by kernel_rfl) rfl rfl hzf trivial (by unfold roomA; omega)
              refine d_gen K2 (L := ([(q39, .cells ([x0, x1, x2, x3, x4, x5, x6])), (q5, .cells ([.int .i64 kd2, .int .i64 rl2, .int .i64 lv2, .bool ng2, a2, e2, kids2])), (q1, .cells ([.int .i64 4, .int .i64 rl, .int .i64 lv, .bool ng, a, b, kids])), (q2, .cells ([.int .i64 0, .int .i64 0, .int .i64 0, .bool false, .nilsl, .nilsl, .nilsl])), (q3, .cells ([.int .i64 3, .int .i64 0, .int .i64 0, .bool false, .nilsl, .nilsl, K]))] ++ ex2)) e43 [4, 1] (by decide) rfl (by kernel_rfl) fun H44 hh45 => ?_
              have o_K2 := g2.one
              have c_K2 := g2.cells
              refine WD.run dr1 [(41, .ptr q3 6)] (by kernel_rfl) ?_
              refine d_last .undef (m_st (P := Tryz.prog) (t := 30) hh45 4 6 (K2) [K2] c_K2 [.int .i64 3, .int .i64 0, .int .i64 0, .bool false, .nilsl, .nilsl, K2] rfl (oc1 o_K2 oc0) (by kernel_rfl)) (by kernel_rfl) fun H46 hh47 => ?_
              refine WD.e0 (Bk_n (Th_n (W.region ?_)))
              refine o_v2 (.int .i64 (IntKind.i64.wrap (((i : Nat) : Int) + (1 : Int)))) (.int .i64 (((i + 1 : Nat) : Int))) (congrArg (AV.int .i64) (by rw [wrapN] <;> omega)) (by kernel_rfl) ?_
              refine WOps.run dr1 [(31, .int .i64 ((i + 1 : Nat) : Int))] (by kernel_rfl) ?_
              refine WOps.e0 (Th_n ?_)
              exact ⟨u - 1, by omega, .ptr q5 0, .bool true, pp, .agg ([.int .i64 kd2, .int .i64 rl2, .int .i64 lv2, .bool ng2, a2, e2, kids2]), .ptr q3 6, K, .agg ([.int .i64 kd2, .int .i64 rl2, .int .i64 lv2, .bool ng2, a2, e2, kids2]), .agg ([x0, x1, x2, x3, x4, x5, x6]), .sl q39 0 1 7 (some 1), K2, .ptr q3 6, .int .i64 ((i + 1 : Nat) : Int), i + 1, K2, ex2, by kernel_rfl, hh47.pickt [(q39, .cells ([x0, x1, x2, x3, x4, x5, x6])), (q5, .cells ([.int .i64 kd2, .int .i64 rl2, .int .i64 lv2, .bool ng2, a2, e2, kids2])), (q1, .cells ([.int .i64 4, .int .i64 rl, .int .i64 lv, .bool ng, a, b, kids])), (q2, .cells ([.int .i64 0, .int .i64 0, .int .i64 0, .bool false, .nilsl, .nilsl, .nilsl])), (q3, .cells ([.int .i64 3, .int .i64 0, .int .i64 0, .bool false, .nilsl, .nilsl, K2]))] [2, 3, 4] (by decide) rfl, by omega, g2⟩
            · refine o_v2 (.bool (decide (((i : Nat) : Int) < ((lk : Nat) : Int)))) (.bool false) (congrArg AV.bool (decide_eq_false (by omega))) (by kernel_rfl) ?_
              refine WOps.e0 (Th_n (W.seq (W.condF (by kernel_rfl) (W.exit (Th_e (Th_e (Bk_s (Th_n (W.seq (W.region ?_))))))))))
              refine o_ld hh36 2 0 (.agg ([.int .i64 3, .int .i64 0, .int .i64 0, .bool false, .nilsl, .nilsl, K])) rfl rfl (by kernel_rfl) ?_
              refine o_st hh36 1 0 (.agg ([.int .i64 3, .int .i64 0, .int .i64 0, .bool false, .nilsl, .nilsl, K])) [.int .i64 3, .int .i64 0, .int .i64 0, .bool false, .nilsl, .nilsl, K] rfl rfl (oc1 rfl (oc1 rfl (oc1 rfl (oc1 rfl (oc1 rfl (oc1 rfl (oc1 o_K oc0))))))) (by kernel_rfl) fun H48 hh49 => ?_
              refine WOps.e0 (Th_n (W.ret (Bk_r (Th_r ?_))))
              obtain ⟨K9, w_K, v_K, l_K9, f_K9⟩ := g.view [(q1, .cells ([.int .i64 4, .int .i64 rl, .int .i64 lv, .bool ng, a, b, kids])), (q2, .cells ([.int .i64 3, .int .i64 0, .int .i64 0, .bool false, .nilsl, .nilsl, K])), (q3, .cells ([.int .i64 3, .int .i64 0, .int .i64 0, .bool false, .nilsl, .nilsl, K]))] hh49
              exact ret_c (r' := .agg ([.int .i64 3, .int .i64 0, .int .i64 0, .bool false, .nilsl, .nilsl, K9])) (id := q2) (off := 0) (r := .agg ([.int .i64 3, .int .i64 0, .int .i64 0, .bool false, .nilsl, .nilsl, K])) (⟨_, rfl, rfl, fc rfl (fc rfl (fc rfl (fc rfl (fc rfl (fc rfl (fc f_K9 fn0))))))⟩) hh49 1 rfl (.inr rfl) rfl (by kernel_rfl) (by kernel_rfl) (vagg (vcons (vflat rfl) (vcons (vflat rfl) (vcons (vflat rfl) (vcons (vflat rfl) (vcons (vflat rfl) (vcons (vflat rfl) (vcons (v_K _) vnil))))))))
          · refine o_v2 (.bool (((kd : Int) == (4 : Int)))) (.bool false) (congrArg AV.bool (beq_eq_false_iff_ne.2 (k4))) (by kernel_rfl) ?_
            refine WOps.run dr1 [(21, .bool false)] (by kernel_rfl) ?_
            refine WOps.e0 (Th_n (W.condF (by kernel_rfl) (W.skip (Bk_n (Th_n (W.seq (W.region ?_)))))))
            refine WOps.run dr1 [(44, .agg ([.int .i64 1, .int .i64 0, .int .i64 0, .bool false, .nilsl, .nilsl, .nilsl]))] (by kernel_rfl) ?_
            refine o_st hh7 0 0 (.agg ([.int .i64 1, .int .i64 0, .int .i64 0, .bool false, .nilsl, .nilsl, .nilsl])) [.int .i64 1, .int .i64 0, .int .i64 0, .bool false, .nilsl, .nilsl, .nilsl] rfl rfl rfl (by kernel_rfl) fun H50 hh51 => ?_
            refine WOps.e0 (Th_n (W.ret ?_))
            exact ret_c (r' := .agg ([.int .i64 1, .int .i64 0, .int .i64 0, .bool false, .nilsl, .nilsl, .nilsl])) (id := q2) (off := 0) (r := .agg ([.int .i64 1, .int .i64 0, .int .i64 0, .bool false, .nilsl, .nilsl, .nilsl])) (⟨_, rfl, rfl, rfl⟩) hh51 0 rfl (.inr rfl) rfl (by kernel_rfl) (by kernel_rfl) (vagg (vflats rfl))

theorem tKnown_con (n : Int) : Con 62 [.int .i64 n] (Sp1 62 [.int .i64 n]) := by
  refine con_ret (Sp := Sp1) Tryz.func62 rfl ?_
  show W (ES Sp1) _ _ ⟨[.int .i64 n] ++ List.replicate 8 .undef, []⟩
  have hh52 := @Has.nil ([] : Heap)
  refine W.seq (W.region ?_)
  refine WOps.run dr1 [(2, .bool false)] (by kernel_rfl) ?_
  refine WOps.e0 (Th_n (W.seq (W.region ?_)))
  refine WOps.run dr1 [(3, .int .i64 n)] (by kernel_rfl) ?_
  by_cases h1 : n ≥ 1
  · refine o_v2 (.bool (decide ((n : Int) ≥ (1 : Int)))) (.bool true) (congrArg AV.bool (decide_eq_true (h1))) (by kernel_rfl) ?_
    refine WOps.run dr2 [(5, .bool true), (6, .int .i64 n)] (by kernel_rfl) ?_
    by_cases h4 : n ≤ 4
    · refine o_v2 (.bool (decide ((n : Int) ≤ (4 : Int)))) (.bool true) (congrArg AV.bool (decide_eq_true (h4))) (by kernel_rfl) ?_
      refine WOps.run dr2 [(8, .bool true), (2, .bool true)] (by kernel_rfl) ?_
      refine WOps.e0 (Th_n (W.ret ?_))
      exact ret_t (r' := .bool true) (⟨true, rfl, fun _ => ⟨h1, h4⟩⟩) (.inr rfl) rfl (by kernel_rfl) (vflat rfl)
    · refine o_v2 (.bool (decide ((n : Int) ≤ (4 : Int)))) (.bool false) (congrArg AV.bool (decide_eq_false (h4))) (by kernel_rfl) ?_
      refine WOps.run dr2 [(8, .bool false), (2, .bool false)] (by kernel_rfl) ?_
      refine WOps.e0 (Th_n (W.ret ?_))
      exact ret_t (r' := .bool false) (⟨false, rfl, fun h => by simp at h⟩) (.inr rfl) rfl (by kernel_rfl) (vflat rfl)
  · refine o_v2 (.bool (decide ((n : Int) ≥ (1 : Int)))) (.bool false) (congrArg AV.bool (decide_eq_false (h1))) (by kernel_rfl) ?_
    refine WOps.run dr5 [(5, .bool false), (6, .undef), (7, .undef), (8, .bool false), (2, .bool false)] (by kernel_rfl) ?_
    refine WOps.e0 (Th_n (W.ret ?_))
    exact ret_t (r' := .bool false) (⟨false, rfl, fun h => by simp at h⟩) (.inr rfl) rfl (by kernel_rfl) (vflat rfl)

theorem Points_con (m : List AV) (n : Int) (h7 : m.length = 7) (hf : m.all isFlat = true) (hn : n < 1 ∨ n > 4) : Con 31 [.agg m, .int .i64 n] (Sp1 31 [.agg m, .int .i64 n]) := by
  obtain ⟨x0, x1, x2, x3, x4, x5, x6, rfl, f_x0, f_x1, f_x2, f_x3, f_x4, f_x5, f_x6⟩ := seven h7 hf
  refine con_ret (Sp := Sp1) Tryz.func31 rfl ?_
  show W (ES Sp1) _ _ ⟨[.agg ([x0, x1, x2, x3, x4, x5, x6]), .int .i64 n] ++ List.replicate 23 .undef, []⟩
  have hh53 := @Has.nil ([] : Heap)
  refine W.seq (W.region ?_)
  refine o_bx hh53 (.agg ([x0, x1, x2, x3, x4, x5, x6])) [x0, x1, x2, x3, x4, x5, x6] rfl (oc1 (one_of_flat f_x0) (oc1 (one_of_flat f_x1) (oc1 (one_of_flat f_x2) (oc1 (one_of_flat f_x3) (oc1 (one_of_flat f_x4) (oc1 (one_of_flat f_x5) (oc1 (one_of_flat f_x6) oc0))))))) rfl (by kernel_rfl) fun q2 H54 hh55 => ?_
  refine o_bx hh55 (.int .i64 n) [.int .i64 n] rfl rfl rfl (by kernel_rfl) fun q3 H56 hh57 => ?_
  refine WOps.run dr2 [(4, .nilsl), (5, .int .i64 0)] (by kernel_rfl) ?_
  refine WOps.e0 (Th_n (W.seq (W.seq (W.region ?_))))
  refine o_ld hh57 0 0 (.int .i64 n) rfl rfl (by kernel_rfl) ?_
  refine o_call (ys := [.int .i64 n]) (vflats rfl) (tKnown_con n) rfl (by kernel_rfl) fun z Oz hz => ?_
  obtain ⟨c, rfl, hc⟩ := hz
  cases c with
  | true => have := hc rfl; omega
  | false =>
    refine WOps.run dr1 [(10, .bool true)] (by kernel_rfl) ?_
    refine WOps.e0 (Th_n (W.condT (by kernel_rfl) (W.seq (W.region ?_))))
    refine WOps.run dr2 [(4, .nilsl), (5, .int .i64 1)] (by kernel_rfl) ?_
    refine WOps.e0 (Th_n (W.ret (Th_r ?_)))
    exact ret_tt (r' := .tup ([.nilsl, .int .i64 1])) (r := .nilsl) (r2 := .int .i64 1) (rfl) (.inr rfl) rfl (by kernel_rfl) (by kernel_rfl) (vtup (vflats rfl))

theorem Exists_con (m : List AV) (n : Int) (h7 : m.length = 7) (hf : m.all isFlat = true) (hn : n < 1 ∨ n > 4) : Con 11 [.agg m, .int .i64 n] (Sp1 11 [.agg m, .int .i64 n]) := by
  obtain ⟨x0, x1, x2, x3, x4, x5, x6, rfl, f_x0, f_x1, f_x2, f_x3, f_x4, f_x5, f_x6⟩ := seven h7 hf
  refine con_ret (Sp := Sp1) Tryz.func11 rfl ?_
  show W (ES Sp1) _ _ ⟨[.agg ([x0, x1, x2, x3, x4, x5, x6]), .int .i64 n] ++ List.replicate 35 .undef, []⟩
  have hh58 := @Has.nil ([] : Heap)
  refine W.seq (W.region ?_)
  refine o_bx hh58 (.agg ([x0, x1, x2, x3, x4, x5, x6])) [x0, x1, x2, x3, x4, x5, x6] rfl (oc1 (one_of_flat f_x0) (oc1 (one_of_flat f_x1) (oc1 (one_of_flat f_x2) (oc1 (one_of_flat f_x3) (oc1 (one_of_flat f_x4) (oc1 (one_of_flat f_x5) (oc1 (one_of_flat f_x6) oc0))))))) rfl (by kernel_rfl) fun q2 H59 hh60 => ?_
  refine o_bx hh60 (.int .i64 n) [.int .i64 n] rfl rfl rfl (by kernel_rfl) fun q3 H61 hh62 => ?_
  refine o_al hh62 (.agg ([.int .i64 0, .int .i64 0, .int .i64 0, .bool false, .nilsl, .nilsl, .nilsl])) rfl (by kernel_rfl) fun q4 H63 hh64 => ?_
  refine WOps.run dr1 [(5, .int .i64 0)] (by kernel_rfl) ?_
  refine WOps.e0 (Th_n (W.seq (W.region ?_)))
  refine o_ld hh64 2 0 (.agg ([x0, x1, x2, x3, x4, x5, x6])) rfl rfl (by kernel_rfl) ?_
  refine o_ld hh64 1 0 (.int .i64 n) rfl rfl (by kernel_rfl) ?_
  refine o_call (ys := [.agg ([x0, x1, x2, x3, x4, x5, x6]), .int .i64 n]) (vcons (vagg (vflats (fc f_x0 (fc f_x1 (fc f_x2 (fc f_x3 (fc f_x4 (fc f_x5 (fc f_x6 fn0))))))))) (vcons (vflat rfl) vnil)) (Points_con _ n rfl hf hn) rfl (by kernel_rfl) fun z Oz hz => ?_
  have hz' : z = _ := hz
  subst hz'
  refine WOps.run dr5 [(12, .tup ([.nilsl, .int .i64 1])), (16, .nilsl), (17, .int .i64 1), (6, .nilsl), (7, .int .i64 1)] (by kernel_rfl) ?_
  refine WOps.e0 (Th_n (W.seq (W.seq (W.region ?_))))
  refine WOps.run dr2 [(18, .int .i64 1), (19, .bool true)] (by kernel_rfl) ?_
  refine WOps.e0 (Th_n (W.condT (by kernel_rfl) (W.seq (W.region ?_))))
  refine WOps.run dr2 [(20, .agg ([.int .i64 0, .int .i64 0, .int .i64 0, .bool false, .nilsl, .nilsl, .nilsl])), (21, .int .i64 1)] (by kernel_rfl) ?_
  refine o_st hh64 0 0 (.agg ([.int .i64 0, .int .i64 0, .int .i64 0, .bool false, .nilsl, .nilsl, .nilsl])) [.int .i64 0, .int .i64 0, .int .i64 0, .bool false, .nilsl, .nilsl, .nilsl] rfl rfl rfl (by kernel_rfl) fun H65 hh66 => ?_
  refine WOps.run dr1 [(5, .int .i64 1)] (by kernel_rfl) ?_
  refine WOps.e0 (Th_n (W.ret (Th_r ?_)))
  exact ret_ct (r' := .tup ([.agg ([.int .i64 0, .int .i64 0, .int .i64 0, .bool false, .nilsl, .nilsl, .nilsl]), .int .i64 1])) (id := q4) (off := 0) (r := .agg ([.int .i64 0, .int .i64 0, .int .i64 0, .bool false, .nilsl, .nilsl, .nilsl])) (r2 := .int .i64 1) (rfl) hh66 0 rfl (.inr rfl) rfl (by kernel_rfl) (by kernel_rfl) (by kernel_rfl) (vtup (vcons (vagg (vflats rfl)) (vcons (vflat rfl) vnil)))

theorem Forall_con (d N : Nat) (m : List AV) (n : Int) (hm : MV d N m) (hN : N ≤ 2 ^ 20) (hn : n < 1 ∨ n > 4) : Con 12 [.agg m, .int .i64 n] (Sp1 12 [.agg m, .int .i64 n]) := by
  have hm' := hm
  obtain ⟨kd, rl, lv, ng, a, b, kids, rfl, f_a, f_b, f_kids⟩ := hm.shape
  refine con_ret (Sp := Sp1) Tryz.func12 rfl ?_
  show W (ES Sp1) _ _ ⟨[.agg ([.int .i64 kd, .int .i64 rl, .int .i64 lv, .bool ng, a, b, kids]), .int .i64 n] ++ List.replicate 20 .undef, []⟩
  have hh67 := @Has.nil ([] : Heap)
  refine W.seq (W.region ?_)
  refine o_bx hh67 (.agg ([.int .i64 kd, .int .i64 rl, .int .i64 lv, .bool ng, a, b, kids])) [.int .i64 kd, .int .i64 rl, .int .i64 lv, .bool ng, a, b, kids] rfl (oc1 rfl (oc1 rfl (oc1 rfl (oc1 rfl (oc1 (one_of_flat f_a) (oc1 (one_of_flat f_b) (oc1 (one_of_flat f_kids) oc0))))))) rfl (by kernel_rfl) fun q2 H68 hh69 => ?_
  refine o_al hh69 (.agg ([.int .i64 0, .int .i64 0, .int .i64 0, .bool false, .nilsl, .nilsl, .nilsl])) rfl (by kernel_rfl) fun q4 H70 hh71 => ?_
  refine WOps.run dr1 [(5, .int .i64 0)] (by kernel_rfl) ?_
  refine WOps.e0 (Th_n (W.seq (W.region ?_)))
  refine o_ld hh71 1 0 (.agg ([.int .i64 kd, .int .i64 rl, .int .i64 lv, .bool ng, a, b, kids])) rfl rfl (by kernel_rfl) ?_
  refine o_call (ys := [.agg ([.int .i64 kd, .int .i64 rl, .int .i64 lv, .bool ng, a, b, kids])]) (vcons (vagg (vflats (fc rfl (fc rfl (fc rfl (fc rfl (fc f_a (fc f_b (fc f_kids fn0))))))))) vnil) (pNot_con d N _ hm' hN) rfl (by kernel_rfl) fun z Oz hz => ?_
  obtain ⟨zc, rfl, hz7, hzf⟩ := hz
  obtain ⟨x0, x1, x2, x3, x4, x5, x6, rfl, f_x0, f_x1, f_x2, f_x3, f_x4, f_x5, f_x6⟩ := seven hz7 hzf
  refine WOps.run dr1 [(11, .int .i64 n)] (by kernel_rfl) ?_
  refine o_call (ys := [.agg ([x0, x1, x2, x3, x4, x5, x6]), .int .i64 n]) (vcons (vagg (vflats (fc f_x0 (fc f_x1 (fc f_x2 (fc f_x3 (fc f_x4 (fc f_x5 (fc f_x6 fn0))))))))) (vcons (vflat rfl) vnil)) (Exists_con _ n rfl hzf hn) rfl (by kernel_rfl) fun y Oy hy => ?_
  have hy' : y = _ := hy
  subst hy'
  refine WOps.run dr3 [(8, .tup ([.agg ([.int .i64 0, .int .i64 0, .int .i64 0, .bool false, .nilsl, .nilsl, .nilsl]), .int .i64 1])), (13, .agg ([.int .i64 0, .int .i64 0, .int .i64 0, .bool false, .nilsl, .nilsl, .nilsl])), (14, .int .i64 1)] (by kernel_rfl) ?_
  refine o_al hh71 (.agg ([.int .i64 0, .int .i64 0, .int .i64 0, .bool false, .nilsl, .nilsl, .nilsl])) rfl (by kernel_rfl) fun q6 H72 hh73 => ?_
  refine o_st hh73 0 0 (.agg ([.int .i64 0, .int .i64 0, .int .i64 0, .bool false, .nilsl, .nilsl, .nilsl])) [.int .i64 0, .int .i64 0, .int .i64 0, .bool false, .nilsl, .nilsl, .nilsl] rfl rfl rfl (by kernel_rfl) fun H74 hh75 => ?_
  refine WOps.run dr1 [(7, .int .i64 1)] (by kernel_rfl) ?_
  refine WOps.e0 (Th_n (W.seq (W.seq (W.region ?_))))
  refine WOps.run dr2 [(15, .int .i64 1), (16, .bool true)] (by kernel_rfl) ?_
  refine WOps.e0 (Th_n (W.condT (by kernel_rfl) (W.seq (W.region ?_))))
  refine WOps.run dr2 [(17, .agg ([.int .i64 0, .int .i64 0, .int .i64 0, .bool false, .nilsl, .nilsl, .nilsl])), (18, .int .i64 1)] (by kernel_rfl) ?_
  refine o_st hh75 1 0 (.agg ([.int .i64 0, .int .i64 0, .int .i64 0, .bool false, .nilsl, .nilsl, .nilsl])) [.int .i64 0, .int .i64 0, .int .i64 0, .bool false, .nilsl, .nilsl, .nilsl] rfl rfl rfl (by kernel_rfl) fun H76 hh77 => ?_
  refine WOps.run dr1 [(5, .int .i64 1)] (by kernel_rfl) ?_
  refine WOps.e0 (Th_n (W.ret (Th_r ?_)))
  exact ret_ct (r' := .tup ([.agg ([.int .i64 0, .int .i64 0, .int .i64 0, .bool false, .nilsl, .nilsl, .nilsl]), .int .i64 1])) (id := q4) (off := 0) (r := .agg ([.int .i64 0, .int .i64 0, .int .i64 0, .bool false, .nilsl, .nilsl, .nilsl])) (r2 := .int .i64 1) (rfl) hh77 1 rfl (.inr rfl) rfl (by kernel_rfl) (by kernel_rfl) (by kernel_rfl) (vtup (vcons (vagg (vflats rfl)) (vcons (vflat rfl) vnil)))

theorem wrapHi {n : Int} (h0 : 9223372036854775807 < n) (h1 : n ≤ 9223372036854775907) : IntKind.i64.wrap n = n - 18446744073709551616 := by
  have hb : IntKind.i64.bits = 64 := rfl
  have hs : IntKind.i64.signed = true := rfl
  unfold IntKind.wrap
  simp only [hb, hs, Bool.true_and]
  have hm : n % (2 ^ 64 : Int) = n := Int.emod_eq_of_lt (by omega) (by omega)
  rw [hm]
  have : decide (n ≥ (2 ^ (64 - 1) : Int)) = true := decide_eq_true (by omega)
  rw [this]
  simp only [if_true]
  omega

theorem okf_iff {fr : Int} {al nm : AV} {m : List AV} : OKF (.int .i64 fr :: al :: nm :: m) ↔ OkNames (namesOf nm) ∧ 0 ≤ fr ∧ fr + (elems 1 al).length = (elems 1 nm).length ∧ maxl ((rpolys 12 m).map lev) ≤ (elems 1 nm).length := Iff.rfl

theorem FF.open {N : Nat} {p : List AV} (h : FF N p) : ∃ fr al nm kd rl lv ng a b kids la ln, p = [.int .i64 fr, al, nm, .int .i64 kd, .int .i64 rl, .int .i64 lv, .bool ng, a, b, kids] ∧ (-9223372036854775808 ≤ fr ∧ fr ≤ 9223372036854775807) ∧ isFlat al = true ∧ isFlat nm = true ∧ isFlat a = true ∧ isFlat b = true ∧ isFlat kids = true ∧
    LS 1 (fun _ c => ∃ b, c = [.bool b]) al la ∧ la ≤ 8 ∧ LS 1 IsS nm ln ∧ ln ≤ 8 ∧ (∀ (i : Nat) t, (namesOf nm)[i]? = some t → t.size ≤ 9223372036854775807) ∧ MV 12 N [.int .i64 kd, .int .i64 rl, .int .i64 lv, .bool ng, a, b, kids] := by
  obtain ⟨fr, al, nm, m, la, ln, rfl, hfr, hal, hla, hnm, hln, hm⟩ := h
  have hm' := hm
  obtain ⟨kd, rl, lv, ng, a, b, kids, rfl, f_a, f_b, f_kids⟩ := hm.shape
  refine ⟨fr, al, nm, kd, rl, lv, ng, a, b, kids, la, ln, rfl, hfr, hal.flat, hnm.flat, f_a, f_b, f_kids, hal, hla, hnm.imp fun i c _ ⟨s, e, _⟩ => ⟨s, e⟩, hln, fun i t ht => ?_, hm'⟩
  rw [namesOf, List.getElem?_map] at ht
  cases hx : (elems 1 nm)[i]? with
  | none => rw [hx] at ht; simp at ht
  | some x =>
    rw [hx] at ht
    obtain ⟨s, rfl, hs⟩ := hnm.el.2 i x hx
    simp [strOf] at ht
    subst ht
    omega

theorem rValidF_con (N : Nat) (p : List AV) (hp : FF N p) (hN : N ≤ 2 ^ 20) : Con 17 [.agg p] (Sp1 17 [.agg p]) := by
  obtain ⟨fr, al, nm, kd, rl, lv, ng, a, b, kids, la, ln, rfl, hfr, f_al, f_nm, f_a, f_b, f_kids, hal, hla, hnm, hln, hsz, hm⟩ := hp.open
  have ela := hal.el.1
  have eln := hnm.el.1
  refine con_ret (Sp := Sp1) Tryz.func17 rfl ?_
  show W (ES Sp1) _ _ ⟨[.agg ([.int .i64 fr, al, nm, .int .i64 kd, .int .i64 rl, .int .i64 lv, .bool ng, a, b, kids])] ++ List.replicate 32 .undef, []⟩
  have hh78 := @Has.nil ([] : Heap)
  refine W.seq (W.region ?_)
  refine o_bx hh78 (.agg ([.int .i64 fr, al, nm, .int .i64 kd, .int .i64 rl, .int .i64 lv, .bool ng, a, b, kids])) [.int .i64 fr, al, nm, .int .i64 kd, .int .i64 rl, .int .i64 lv, .bool ng, a, b, kids] rfl (oc1 rfl (oc1 (one_of_flat f_al) (oc1 (one_of_flat f_nm) (oc1 rfl (oc1 rfl (oc1 rfl (oc1 rfl (oc1 (one_of_flat f_a) (oc1 (one_of_flat f_b) (oc1 (one_of_flat f_kids) oc0)))))))))) rfl (by kernel_rfl) fun q1 H79 hh80 => ?_
  refine WOps.run dr1 [(2, .bool false)] (by kernel_rfl) ?_
  refine WOps.e0 (Th_n (W.seq ?_))
  refine W.rl true hh80 [0] (by decide) _ rfl (by kernel_rfl) ?_
  refine WD.run dr1 [(3, .ptr q1 2)] (by kernel_rfl) ?_
  refine d_ld hh80 [0] (by decide) rfl 0 2 (nm) rfl rfl (by kernel_rfl) ?_
  refine d_call (ys := [nm]) hh80 [0] (by decide) rfl (vflats (fc f_nm fn0)) (rNames_con nm ln hnm (by omega) hsz) rfl (by kernel_rfl) fun z Oz hz => ?_
  obtain ⟨c, rfl, hc⟩ := hz
  refine WD.run dr1 [(6, .bool c)] (by kernel_rfl) ?_
  rw [← namesOf] at hc
  cases c with
  | false =>
    refine WD.run (drx (drx dr7)) [(7, .undef), (8, .undef), (9, .undef), (10, .bool false), (11, .bool false), (12, .undef), (13, .undef), (14, .undef), (15, .undef), (16, .undef), (17, .undef), (18, .undef), (19, .undef), (20, .undef), (21, .undef), (22, .bool false), (23, .bool false), (24, .undef), (25, .undef), (26, .undef), (27, .undef), (28, .undef), (29, .undef), (30, .undef), (31, .undef), (32, .bool false), (2, .bool false)] (by kernel_rfl) ?_
    refine WD.e0 (Th_n (W.ret ?_))
    exact ret_t (r' := .bool false) (⟨false, rfl, fun h => by simp at h, fun h => by have := hc.2 (okf_iff.1 h).1; simp at this⟩) (.inr rfl) rfl (by kernel_rfl) (vflat rfl)
  | true =>
    refine WD.run dr1 [(7, .ptr q1 0)] (by kernel_rfl) ?_
    refine d_ld hh80 [0] (by decide) rfl 0 0 (.int .i64 fr) rfl rfl (by kernel_rfl) ?_
    by_cases h0 : fr ≥ 0
    · refine d_v2 (.bool (decide ((fr : Int) ≥ (0 : Int)))) (.bool true) (congrArg AV.bool (decide_eq_true (h0))) (by kernel_rfl) ?_
      refine WD.run dr3 [(10, .bool true), (11, .bool true), (12, .ptr q1 0)] (by kernel_rfl) ?_
      refine d_ld hh80 [0] (by decide) rfl 0 0 (.int .i64 fr) rfl rfl (by kernel_rfl) ?_
      refine WD.run dr1 [(14, .ptr q1 1)] (by kernel_rfl) ?_
      refine d_ld hh80 [0] (by decide) rfl 0 1 (al) rfl rfl (by kernel_rfl) ?_
      refine d_vb (.int .i64 (la : Nat)) (fun _ => hal.len P47 _) (by kernel_rfl) ?_
      by_cases hov : fr + la ≤ 9223372036854775807
      · refine d_v2 (.int .i64 (IntKind.i64.wrap ((fr : Int) + ((la : Nat) : Int)))) (.int .i64 (fr + la)) (congrArg (AV.int .i64) (by rw [wrapN] <;> omega)) (by kernel_rfl) ?_
        refine WD.run dr1 [(18, .ptr q1 2)] (by kernel_rfl) ?_
        refine d_ld hh80 [0] (by decide) rfl 0 2 (nm) rfl rfl (by kernel_rfl) ?_
        refine d_vb (.int .i64 (ln : Nat)) (fun _ => hnm.len P48 _) (by kernel_rfl) ?_
        by_cases he : fr + la = ln
        · refine d_v2 (.bool (((fr + la : Int) == ((ln : Nat) : Int)))) (.bool true) (congrArg AV.bool (beq_iff_eq.2 (he))) (by kernel_rfl) ?_
          refine WD.run dr3 [(22, .bool true), (23, .bool true), (24, .ptr q1 3)] (by kernel_rfl) ?_
          refine d_ld hh80 [0] (by decide) rfl 0 3 (.agg ([.int .i64 kd, .int .i64 rl, .int .i64 lv, .bool ng, a, b, kids])) rfl rfl (by kernel_rfl) ?_
          refine d_call (ys := [.agg ([.int .i64 kd, .int .i64 rl, .int .i64 lv, .bool ng, a, b, kids])]) hh80 [0] (by decide) rfl (vcons (vagg (vflats (fc rfl (fc rfl (fc rfl (fc rfl (fc f_a (fc f_b (fc f_kids fn0))))))))) vnil) (mNormal_con 12 N _ hm hN) rfl (by kernel_rfl) fun y Oy hy => ?_
          obtain ⟨yc, rfl, hnr⟩ := hy
          have hmn := (hnr.mn hm).1
          have hpe := (hnr.mn hm).2
          obtain ⟨kd2, rl2, lv2, ng2, a2, e2, kids2, rfl, f_a2, f_e2, f_kids2⟩ := hmn.shape
          refine d_call (ys := [.agg ([.int .i64 kd2, .int .i64 rl2, .int .i64 lv2, .bool ng2, a2, e2, kids2])]) hh80 [0] (by decide) rfl (vcons (vagg (vflats (fc rfl (fc rfl (fc rfl (fc rfl (fc f_a2 (fc f_e2 (fc f_kids2 fn0))))))))) vnil) (mLevel_con 12 N _ hmn (by omega) hN) rfl (by kernel_rfl) fun w Ow hw => ?_
          obtain ⟨x, hx, hw'⟩ : ∃ x : Int, x = maxl ((mpolys 12 [.int .i64 kd2, .int .i64 rl2, .int .i64 lv2, .bool ng2, a2, e2, kids2]).map lev) ∧ w = .int .i64 x := ⟨_, rfl, hw⟩
          subst hw'
          refine WD.run dr1 [(28, .ptr q1 2)] (by kernel_rfl) ?_
          refine d_ld hh80 [0] (by decide) rfl 0 2 (nm) rfl rfl (by kernel_rfl) ?_
          rw [hpe] at hx
          refine d_vb (.int .i64 (ln : Nat)) (fun _ => hnm.len P48 _) (by kernel_rfl) ?_
          by_cases hl : x ≤ ln
          · refine d_v2 (.bool (decide ((x : Int) ≤ ((ln : Nat) : Int)))) (.bool true) (congrArg AV.bool (decide_eq_true (hl))) (by kernel_rfl) ?_
            refine WD.run dr2 [(32, .bool true), (2, .bool true)] (by kernel_rfl) ?_
            refine WD.e0 (Th_n (W.ret ?_))
            exact ret_t (r' := .bool true) (⟨true, rfl, fun _ => okf_iff.2 ⟨hc.1 rfl, h0, by rw [ela, eln]; exact he, by rw [eln, ← hx]; exact hl⟩, fun _ => rfl⟩) (.inr rfl) rfl (by kernel_rfl) (vflat rfl)
          · refine d_v2 (.bool (decide ((x : Int) ≤ ((ln : Nat) : Int)))) (.bool false) (congrArg AV.bool (decide_eq_false (hl))) (by kernel_rfl) ?_
            refine WD.run dr2 [(32, .bool false), (2, .bool false)] (by kernel_rfl) ?_
            refine WD.e0 (Th_n (W.ret ?_))
            exact ret_t (r' := .bool false) (⟨false, rfl, fun h => by simp at h, fun h => by have := (okf_iff.1 h).2.2.2; rw [eln, ← hx] at this; exact absurd this hl⟩) (.inr rfl) rfl (by kernel_rfl) (vflat rfl)
        · refine d_v2 (.bool (((fr + la : Int) == ((ln : Nat) : Int)))) (.bool false) (congrArg AV.bool (beq_eq_false_iff_ne.2 (he))) (by kernel_rfl) ?_
          refine WD.run (drx dr2) [(22, .bool false), (23, .bool false), (24, .undef), (25, .undef), (26, .undef), (27, .undef), (28, .undef), (29, .undef), (30, .undef), (31, .undef), (32, .bool false), (2, .bool false)] (by kernel_rfl) ?_
          refine WD.e0 (Th_n (W.ret ?_))
          exact ret_t (r' := .bool false) (⟨false, rfl, fun h => by simp at h, fun h => by have := (okf_iff.1 h).2.2.1; rw [ela, eln] at this; exact absurd this he⟩) (.inr rfl) rfl (by kernel_rfl) (vflat rfl)
      · refine d_v2 (.int .i64 (IntKind.i64.wrap ((fr : Int) + ((la : Nat) : Int)))) (.int .i64 (fr + la - 18446744073709551616)) (congrArg (AV.int .i64) (wrapHi (by omega) (by omega))) (by kernel_rfl) ?_
        refine WD.run dr1 [(18, .ptr q1 2)] (by kernel_rfl) ?_
        refine d_ld hh80 [0] (by decide) rfl 0 2 (nm) rfl rfl (by kernel_rfl) ?_
        refine d_vb (.int .i64 (ln : Nat)) (fun _ => hnm.len P48 _) (by kernel_rfl) ?_
        refine d_v2 (.bool (((fr + la - 18446744073709551616 : Int) == ((ln : Nat) : Int)))) (.bool false) (congrArg AV.bool (beq_eq_false_iff_ne.2 (by omega))) (by kernel_rfl) ?_
        refine WD.run (drx dr2) [(22, .bool false), (23, .bool false), (24, .undef), (25, .undef), (26, .undef), (27, .undef), (28, .undef), (29, .undef), (30, .undef), (31, .undef), (32, .bool false), (2, .bool false)] (by kernel_rfl) ?_
        refine WD.e0 (Th_n (W.ret ?_))
        exact ret_t (r' := .bool false) (⟨false, rfl, fun h => by simp at h, fun h => by have := (okf_iff.1 h).2.2.1; rw [ela, eln] at this; omega⟩) (.inr rfl) rfl (by kernel_rfl) (vflat rfl)
    · refine d_v2 (.bool (decide ((fr : Int) ≥ (0 : Int)))) (.bool false) (congrArg AV.bool (decide_eq_false (h0))) (by kernel_rfl) ?_
      refine WD.run (drx (drx dr4)) [(10, .bool false), (11, .bool false), (12, .undef), (13, .undef), (14, .undef), (15, .undef), (16, .undef), (17, .undef), (18, .undef), (19, .undef), (20, .undef), (21, .undef), (22, .bool false), (23, .bool false), (24, .undef), (25, .undef), (26, .undef), (27, .undef), (28, .undef), (29, .undef), (30, .undef), (31, .undef), (32, .bool false), (2, .bool false)] (by kernel_rfl) ?_
      refine WD.e0 (Th_n (W.ret ?_))
      exact ret_t (r' := .bool false) (⟨false, rfl, fun h => by simp at h, fun h => absurd (okf_iff.1 h).2.1 h0⟩) (.inr rfl) rfl (by kernel_rfl) (vflat rfl)

theorem pValidF_con (N : Nat) (p : List AV) (hp : FF N p) (hN : N ≤ 2 ^ 20) : Con 43 [.agg p] (Sp1 43 [.agg p]) := by
  obtain ⟨fr, al, nm, kd, rl, lv, ng, a, b, kids, la, ln, rfl, hfr, f_al, f_nm, f_a, f_b, f_kids, hal, hla, hnm, hln, hsz, hm⟩ := hp.open
  have ela := hal.el.1
  have eln := hnm.el.1
  refine con_ret (Sp := Sp1) Tryz.func43 rfl ?_
  show W (ES Sp1) _ _ ⟨[.agg ([.int .i64 fr, al, nm, .int .i64 kd, .int .i64 rl, .int .i64 lv, .bool ng, a, b, kids])] ++ List.replicate 39 .undef, []⟩
  have hh81 := @Has.nil ([] : Heap)
  refine W.seq (W.region ?_)
  refine o_bx hh81 (.agg ([.int .i64 fr, al, nm, .int .i64 kd, .int .i64 rl, .int .i64 lv, .bool ng, a, b, kids])) [.int .i64 fr, al, nm, .int .i64 kd, .int .i64 rl, .int .i64 lv, .bool ng, a, b, kids] rfl (oc1 rfl (oc1 (one_of_flat f_al) (oc1 (one_of_flat f_nm) (oc1 rfl (oc1 rfl (oc1 rfl (oc1 rfl (oc1 (one_of_flat f_a) (oc1 (one_of_flat f_b) (oc1 (one_of_flat f_kids) oc0)))))))))) rfl (by kernel_rfl) fun q1 H82 hh83 => ?_
  refine WOps.run dr1 [(2, .bool false)] (by kernel_rfl) ?_
  refine WOps.e0 (Th_n (W.seq ?_))
  refine W.rl true hh83 [0] (by decide) _ rfl (by kernel_rfl) ?_
  refine WD.run dr1 [(3, .ptr q1 2)] (by kernel_rfl) ?_
  refine d_ld hh83 [0] (by decide) rfl 0 2 (nm) rfl rfl (by kernel_rfl) ?_
  refine d_call (ys := [nm]) hh83 [0] (by decide) rfl (vflats (fc f_nm fn0)) (named_con nm ln hnm (by omega) hsz) rfl (by kernel_rfl) fun z Oz hz => ?_
  obtain ⟨c, rfl, hc⟩ := hz
  refine WD.run dr1 [(6, .bool c)] (by kernel_rfl) ?_
  rw [← namesOf] at hc
  cases c with
  | false =>
    refine WD.run (drx (drx (drx dr4))) [(7, .undef), (8, .undef), (9, .undef), (10, .bool false), (11, .bool false), (12, .undef), (13, .undef), (14, .undef), (15, .undef), (16, .undef), (17, .undef), (18, .bool false), (19, .bool false), (20, .undef), (21, .undef), (22, .undef), (23, .undef), (24, .undef), (25, .undef), (26, .undef), (27, .undef), (28, .undef), (29, .undef), (30, .bool false), (31, .bool false), (32, .undef), (33, .undef), (34, .undef), (35, .undef), (36, .undef), (37, .undef), (38, .undef), (39, .bool false), (2, .bool false)] (by kernel_rfl) ?_
    refine WD.e0 (Th_n (W.ret ?_))
    exact ret_t (r' := .bool false) (⟨false, rfl, fun h => by simp at h, fun h => by have := hc.2 (okf_iff.1 h).1; simp at this⟩) (.inr rfl) rfl (by kernel_rfl) (vflat rfl)
  | true =>
    refine WD.run dr1 [(7, .ptr q1 0)] (by kernel_rfl) ?_
    refine d_ld hh83 [0] (by decide) rfl 0 0 (.int .i64 fr) rfl rfl (by kernel_rfl) ?_
    by_cases h0 : fr ≥ 0
    · refine d_v2 (.bool (decide ((fr : Int) ≥ (0 : Int)))) (.bool true) (congrArg AV.bool (decide_eq_true (h0))) (by kernel_rfl) ?_
      refine WD.run dr3 [(10, .bool true), (11, .bool true), (12, .ptr q1 0)] (by kernel_rfl) ?_
      refine d_ld hh83 [0] (by decide) rfl 0 0 (.int .i64 fr) rfl rfl (by kernel_rfl) ?_
      refine WD.run dr1 [(14, .ptr q1 2)] (by kernel_rfl) ?_
      refine d_ld hh83 [0] (by decide) rfl 0 2 (nm) rfl rfl (by kernel_rfl) ?_
      refine d_vb (.int .i64 (ln : Nat)) (fun _ => hnm.len P48 _) (by kernel_rfl) ?_
      by_cases hle : fr ≤ ln
      · refine d_v2 (.bool (decide ((fr : Int) ≤ ((ln : Nat) : Int)))) (.bool true) (congrArg AV.bool (decide_eq_true (hle))) (by kernel_rfl) ?_
        refine WD.run dr3 [(18, .bool true), (19, .bool true), (20, .ptr q1 0)] (by kernel_rfl) ?_
        refine d_ld hh83 [0] (by decide) rfl 0 0 (.int .i64 fr) rfl rfl (by kernel_rfl) ?_
        refine WD.run dr1 [(22, .ptr q1 1)] (by kernel_rfl) ?_
        refine d_ld hh83 [0] (by decide) rfl 0 1 (al) rfl rfl (by kernel_rfl) ?_
        refine d_vb (.int .i64 (la : Nat)) (fun _ => hal.len P47 _) (by kernel_rfl) ?_
        refine d_v2 (.int .i64 (IntKind.i64.wrap ((fr : Int) + ((la : Nat) : Int)))) (.int .i64 (fr + la)) (congrArg (AV.int .i64) (by rw [wrapN] <;> omega)) (by kernel_rfl) ?_
        refine WD.run dr1 [(26, .ptr q1 2)] (by kernel_rfl) ?_
        refine d_ld hh83 [0] (by decide) rfl 0 2 (nm) rfl rfl (by kernel_rfl) ?_
        refine d_vb (.int .i64 (ln : Nat)) (fun _ => hnm.len P48 _) (by kernel_rfl) ?_
        by_cases he : fr + la = ln
        · refine d_v2 (.bool (((fr + la : Int) == ((ln : Nat) : Int)))) (.bool true) (congrArg AV.bool (beq_iff_eq.2 (he))) (by kernel_rfl) ?_
          refine WD.run dr3 [(30, .bool true), (31, .bool true), (32, .ptr q1 3)] (by kernel_rfl) ?_
          refine d_ld hh83 [0] (by decide) rfl 0 3 (.agg ([.int .i64 kd, .int .i64 rl, .int .i64 lv, .bool ng, a, b, kids])) rfl rfl (by kernel_rfl) ?_
          refine d_call (ys := [.agg ([.int .i64 kd, .int .i64 rl, .int .i64 lv, .bool ng, a, b, kids])]) hh83 [0] (by decide) rfl (vcons (vagg (vflats (fc rfl (fc rfl (fc rfl (fc rfl (fc f_a (fc f_b (fc f_kids fn0))))))))) vnil) (pLevel_con 12 N _ hm (by omega) hN) rfl (by kernel_rfl) fun w Ow hw => ?_
          obtain ⟨x, hx, hw'⟩ : ∃ x : Int, x = maxl ((rpolys 12 [.int .i64 kd, .int .i64 rl, .int .i64 lv, .bool ng, a, b, kids]).map lev) ∧ w = .int .i64 x := ⟨_, rfl, hw⟩
          subst hw'
          refine WD.run dr1 [(35, .ptr q1 2)] (by kernel_rfl) ?_
          refine d_ld hh83 [0] (by decide) rfl 0 2 (nm) rfl rfl (by kernel_rfl) ?_
          refine d_vb (.int .i64 (ln : Nat)) (fun _ => hnm.len P48 _) (by kernel_rfl) ?_
          by_cases hl : x ≤ ln
          · refine d_v2 (.bool (decide ((x : Int) ≤ ((ln : Nat) : Int)))) (.bool true) (congrArg AV.bool (decide_eq_true (hl))) (by kernel_rfl) ?_
            refine WD.run dr2 [(39, .bool true), (2, .bool true)] (by kernel_rfl) ?_
            refine WD.e0 (Th_n (W.ret ?_))
            exact ret_t (r' := .bool true) (⟨true, rfl, fun _ => okf_iff.2 ⟨hc.1 rfl, h0, by rw [ela, eln]; exact he, by rw [eln, ← hx]; exact hl⟩, fun _ => rfl⟩) (.inr rfl) rfl (by kernel_rfl) (vflat rfl)
          · refine d_v2 (.bool (decide ((x : Int) ≤ ((ln : Nat) : Int)))) (.bool false) (congrArg AV.bool (decide_eq_false (hl))) (by kernel_rfl) ?_
            refine WD.run dr2 [(39, .bool false), (2, .bool false)] (by kernel_rfl) ?_
            refine WD.e0 (Th_n (W.ret ?_))
            exact ret_t (r' := .bool false) (⟨false, rfl, fun h => by simp at h, fun h => by have := (okf_iff.1 h).2.2.2; rw [eln, ← hx] at this; exact absurd this hl⟩) (.inr rfl) rfl (by kernel_rfl) (vflat rfl)
        · refine d_v2 (.bool (((fr + la : Int) == ((ln : Nat) : Int)))) (.bool false) (congrArg AV.bool (beq_eq_false_iff_ne.2 (he))) (by kernel_rfl) ?_
          refine WD.run (drx dr1) [(30, .bool false), (31, .bool false), (32, .undef), (33, .undef), (34, .undef), (35, .undef), (36, .undef), (37, .undef), (38, .undef), (39, .bool false), (2, .bool false)] (by kernel_rfl) ?_
          refine WD.e0 (Th_n (W.ret ?_))
          exact ret_t (r' := .bool false) (⟨false, rfl, fun h => by simp at h, fun h => by have := (okf_iff.1 h).2.2.1; rw [ela, eln] at this; exact absurd this he⟩) (.inr rfl) rfl (by kernel_rfl) (vflat rfl)
      · refine d_v2 (.bool (decide ((fr : Int) ≤ ((ln : Nat) : Int)))) (.bool false) (congrArg AV.bool (decide_eq_false (hle))) (by kernel_rfl) ?_
        refine WD.run (drx (drx dr3)) [(18, .bool false), (19, .bool false), (20, .undef), (21, .undef), (22, .undef), (23, .undef), (24, .undef), (25, .undef), (26, .undef), (27, .undef), (28, .undef), (29, .undef), (30, .bool false), (31, .bool false), (32, .undef), (33, .undef), (34, .undef), (35, .undef), (36, .undef), (37, .undef), (38, .undef), (39, .bool false), (2, .bool false)] (by kernel_rfl) ?_
        refine WD.e0 (Th_n (W.ret ?_))
        exact ret_t (r' := .bool false) (⟨false, rfl, fun h => by simp at h, fun h => by have := (okf_iff.1 h).2.2.1; rw [ela, eln] at this; omega⟩) (.inr rfl) rfl (by kernel_rfl) (vflat rfl)
    · refine d_v2 (.bool (decide ((fr : Int) ≥ (0 : Int)))) (.bool false) (congrArg AV.bool (decide_eq_false (h0))) (by kernel_rfl) ?_
      refine WD.run (drx (drx (drx dr1))) [(10, .bool false), (11, .bool false), (12, .undef), (13, .undef), (14, .undef), (15, .undef), (16, .undef), (17, .undef), (18, .bool false), (19, .bool false), (20, .undef), (21, .undef), (22, .undef), (23, .undef), (24, .undef), (25, .undef), (26, .undef), (27, .undef), (28, .undef), (29, .undef), (30, .bool false), (31, .bool false), (32, .undef), (33, .undef), (34, .undef), (35, .undef), (36, .undef), (37, .undef), (38, .undef), (39, .bool false), (2, .bool false)] (by kernel_rfl) ?_
      refine WD.e0 (Th_n (W.ret ?_))
      exact ret_t (r' := .bool false) (⟨false, rfl, fun h => by simp at h, fun h => absurd (okf_iff.1 h).2.1 h0⟩) (.inr rfl) rfl (by kernel_rfl) (vflat rfl)

theorem Eliminate_con (N : Nat) (p : List AV) (hp : FF N p) (hN : N ≤ 2 ^ 20) (hno : ¬ OKF p) : Con 18 [.agg p] (Sp1 18 [.agg p]) := by
  have hp' := hp
  obtain ⟨fr, al, nm, kd, rl, lv, ng, a, b, kids, la, ln, rfl, hfr, f_al, f_nm, f_a, f_b, f_kids, hal, hla, hnm, hln, hsz, hm⟩ := hp.open
  refine con_ret (Sp := Sp1) Tryz.func18 rfl ?_
  show W (ES Sp1) _ _ ⟨[.agg ([.int .i64 fr, al, nm, .int .i64 kd, .int .i64 rl, .int .i64 lv, .bool ng, a, b, kids])] ++ List.replicate 48 .undef, []⟩
  have hh84 := @Has.nil ([] : Heap)
  refine W.seq (W.region ?_)
  refine o_bx hh84 (.agg ([.int .i64 fr, al, nm, .int .i64 kd, .int .i64 rl, .int .i64 lv, .bool ng, a, b, kids])) [.int .i64 fr, al, nm, .int .i64 kd, .int .i64 rl, .int .i64 lv, .bool ng, a, b, kids] rfl (oc1 rfl (oc1 (one_of_flat f_al) (oc1 (one_of_flat f_nm) (oc1 rfl (oc1 rfl (oc1 rfl (oc1 rfl (oc1 (one_of_flat f_a) (oc1 (one_of_flat f_b) (oc1 (one_of_flat f_kids) oc0)))))))))) rfl (by kernel_rfl) fun q1 H85 hh86 => ?_
  refine o_al hh86 (.agg ([.int .i64 0, .int .i64 0, .int .i64 0, .bool false, .nilsl, .nilsl, .nilsl])) rfl (by kernel_rfl) fun q2 H87 hh88 => ?_
  refine WOps.run dr1 [(3, .int .i64 0)] (by kernel_rfl) ?_
  refine WOps.e0 (Th_n (W.seq (W.seq (W.region ?_))))
  refine o_ld hh88 1 0 (.agg ([.int .i64 fr, al, nm, .int .i64 kd, .int .i64 rl, .int .i64 lv, .bool ng, a, b, kids])) rfl rfl (by kernel_rfl) ?_
  refine o_call (ys := [.agg ([.int .i64 fr, al, nm, .int .i64 kd, .int .i64 rl, .int .i64 lv, .bool ng, a, b, kids])]) (vcons (vagg (vflats (fc rfl (fc f_al (fc f_nm (fc rfl (fc rfl (fc rfl (fc rfl (fc f_a (fc f_b (fc f_kids fn0)))))))))))) vnil) (pValidF_con N _ hp' hN) rfl (by kernel_rfl) fun z Oz hz => ?_
  obtain ⟨c, rfl, hc⟩ := hz
  cases c with
  | true => exact absurd (hc.1 rfl) hno
  | false =>
    refine WOps.run dr1 [(11, .bool true)] (by kernel_rfl) ?_
    refine WOps.e0 (Th_n (W.condT (by kernel_rfl) (W.seq (W.region ?_))))
    refine WOps.run dr1 [(12, .agg ([.int .i64 0, .int .i64 0, .int .i64 0, .bool false, .nilsl, .nilsl, .nilsl]))] (by kernel_rfl) ?_
    refine o_st hh88 0 0 (.agg ([.int .i64 0, .int .i64 0, .int .i64 0, .bool false, .nilsl, .nilsl, .nilsl])) [.int .i64 0, .int .i64 0, .int .i64 0, .bool false, .nilsl, .nilsl, .nilsl] rfl rfl rfl (by kernel_rfl) fun H89 hh90 => ?_
    refine WOps.run dr1 [(3, .int .i64 9)] (by kernel_rfl) ?_
    refine WOps.e0 (Th_n (W.ret (Th_r ?_)))
    exact ret_ct (r' := .tup ([.agg ([.int .i64 0, .int .i64 0, .int .i64 0, .bool false, .nilsl, .nilsl, .nilsl]), .int .i64 9])) (id := q2) (off := 0) (r := .agg ([.int .i64 0, .int .i64 0, .int .i64 0, .bool false, .nilsl, .nilsl, .nilsl])) (r2 := .int .i64 9) (rfl) hh90 0 rfl (.inr rfl) rfl (by kernel_rfl) (by kernel_rfl) (by kernel_rfl) (vtup (vcons (vagg (vflats rfl)) (vcons (vflat rfl) vnil)))

end Go.AX

/- AX, part 60: closed runs; VirtualArgs. -/
set_option linter.unusedVariables false
set_option linter.unusedSimpArgs false
set_option maxRecDepth 4000
set_option maxHeartbeats 4000000
namespace Go.AX
open Go Go.RowKit Go.Proofs
attribute [local irreducible] WOps WD W

def k1 : List FuncId := [178, 148, 211, 116, 207, 143, 115, 147, 146, 87, 149, 82, 58, 40, 88, 150, 139, 151, 90, 91, 121, 194, 125, 120, 122, 118, 77, 103, 33, 124, 135, 36, 89, 119, 63, 34, 11, 12, 137, 138, 136, 74, 66, 31, 80, 162, 104, 71, 35, 27]

/-- Nothing is known: all is run. -/
noncomputable def E0 : Env where
  P := Tryz.prog
  kind := fun f => if k1.contains f then 1 else 0
  O := fun _ _ => none

theorem e0_known : KnownOK E0 := fun f args r h => by simp [E0] at h

def isTrue : Option (AV × Heap) → Bool
  | some (.bool true, _) => true
  | _ => false

theorem closed_con {f : FuncId} {xs : List AV} {n : Nat} (hb : ∃ fn c, Tryz.prog.funcs[f]? = some fn ∧ fn.body = some c) (h : isTrue (axFn E0 (axCode E0 n) f xs []) = true) : Con f xs (fun r => r = .bool true) := by
  cases he : axFn E0 (axCode E0 n) f xs [] with
  | none => rw [he] at h; simp [isTrue] at h
  | some x =>
    obtain ⟨r, H'⟩ := x
    rw [he] at h
    have hr : r = .bool true := by
      unfold isTrue at h
      split at h
      · rename_i e; simp at e; exact e.1
      · simp at h
    subst hr
    exact ⟨hb, .bool true, pure_of_fn (ax_sound prog_ok e0_known n) he (ids := []) (vflat (n := 39) rfl), rfl⟩

theorem awake_run : isTrue (axFn E0 (axCode E0 3000) 8 [] []) = true := by kernel_rfl

theorem awake_con : Con 8 [] (Sp1 8 []) := closed_con ⟨_, _, Tryz.func8, rfl⟩ awake_run

abbrev zeroM : List AV := [.int .i64 0, .int .i64 0, .int .i64 0, .bool false, .nilsl, .nilsl, .nilsl]

theorem equal_run : isTrue (axFn E0 (axCode E0 300) 19 [.agg zeroM, .agg zeroM] []) = true := by kernel_rfl

theorem equal_con : Con 19 [.agg zeroM, .agg zeroM] (Sp1 19 [.agg zeroM, .agg zeroM]) := closed_con ⟨_, _, Tryz.func19, rfl⟩ equal_run

theorem args_con (p : List AV) (n : Int) (hp : TF p) : Con 4 [.agg p, .int .i64 n] (fun r => r = .bool true) := by
  have hp' := hp
  obtain ⟨fr, al, nm, m, la, ln, rfl, hfr, hal, hal2, hnm, hnm2, hm⟩ := hp
  have hm' := hm
  obtain ⟨kd, rl, lv, ng, a, b, kids, lk, rfl, hpo, hk, hk2⟩ := hm
  obtain ⟨_, _, _, _, e, f_a, f_b⟩ := hpo.shape
  simp at e
  obtain ⟨_, _, rfl, rfl⟩ := e
  have f_kids := hk.flat
  have f_al := hal.flat
  have f_nm := hnm.flat
  refine con_ret (Sp := Sp1) Tryz.func4 rfl ?_
  show W (ES Sp1) _ _ ⟨[.agg ([.int .i64 fr, al, nm, .int .i64 kd, .int .i64 rl, .int .i64 lv, .bool ng, a, b, kids]), .int .i64 n] ++ List.replicate 63 .undef, []⟩
  have hh1 := @Has.nil ([] : Heap)
  refine W.seq (W.region ?_)
  refine o_bx hh1 (.agg ([.int .i64 fr, al, nm, .int .i64 kd, .int .i64 rl, .int .i64 lv, .bool ng, a, b, kids])) [.int .i64 fr, al, nm, .int .i64 kd, .int .i64 rl, .int .i64 lv, .bool ng, a, b, kids] rfl (oc1 rfl (oc1 (one_of_flat f_al) (oc1 (one_of_flat f_nm) (oc1 rfl (oc1 rfl (oc1 rfl (oc1 rfl (oc1 (one_of_flat f_a) (oc1 (one_of_flat f_b) (oc1 (one_of_flat f_kids) oc0)))))))))) rfl (by kernel_rfl) fun q2 H2 hh3 => ?_
  refine WOps.run dr1 [(4, .bool false)] (by kernel_rfl) ?_
  refine WOps.e0 (Th_n (W.seq (W.seq (W.region ?_))))
  refine o_call (ys := []) (vflats rfl) (awake_con) rfl (by kernel_rfl) fun z Oz hz => ?_
  have hz' : z = _ := hz
  subst hz'
  refine WOps.run dr2 [(12, .bool false), (13, .bool false)] (by kernel_rfl) ?_
  refine o_ld hh3 0 0 (.agg ([.int .i64 fr, al, nm, .int .i64 kd, .int .i64 rl, .int .i64 lv, .bool ng, a, b, kids])) rfl rfl (by kernel_rfl) ?_
  refine o_call (ys := [.agg ([.int .i64 fr, al, nm, .int .i64 kd, .int .i64 rl, .int .i64 lv, .bool ng, a, b, kids]), .int .i64 4]) (vcons (vagg (vflats (fc rfl (fc f_al (fc f_nm (fc rfl (fc rfl (fc rfl (fc rfl (fc f_a (fc f_b (fc f_kids fn0)))))))))))) (vcons (vflat rfl) vnil)) (FewForm_con _ 4 hp' (by omega) (by omega)) rfl (by kernel_rfl) fun y Oy hy => ?_
  obtain ⟨c, rfl, hc⟩ := hy
  cases c with
  | false =>
    refine WOps.run dr8 [(16, .bool true), (17, .bool true), (18, .bool true), (19, .undef), (20, .undef), (21, .undef), (22, .undef), (23, .bool true)] (by kernel_rfl) ?_
    refine WOps.e0 (Th_n (W.condT (by kernel_rfl) (W.seq (W.region ?_))))
    refine o_call (ys := []) (vflats rfl) (awake_con) rfl (by kernel_rfl) fun z Oz hz => ?_
    have hz' : z = _ := hz
    subst hz'
    refine WOps.run dr1 [(4, .bool true)] (by kernel_rfl) ?_
    refine WOps.e0 (Th_n (W.ret (Th_r ?_)))
    exact ret_t (r' := .bool true) (rfl) (.inr rfl) rfl (by kernel_rfl) (vflat rfl)
  | true =>
    refine WOps.run dr4 [(16, .bool false), (17, .bool false), (18, .bool false), (19, .ptr q2 3)] (by kernel_rfl) ?_
    refine o_ld hh3 0 3 (.agg ([.int .i64 kd, .int .i64 rl, .int .i64 lv, .bool ng, a, b, kids])) rfl rfl (by kernel_rfl) ?_
    have hff : FF 4 _ := hc rfl
    refine o_call (ys := [.agg ([.int .i64 kd, .int .i64 rl, .int .i64 lv, .bool ng, a, b, kids]), .int .i64 4, .int .i64 2]) (vcons (vagg (vflats (fc rfl (fc rfl (fc rfl (fc rfl (fc f_a (fc f_b (fc f_kids fn0))))))))) (vcons (vflat rfl) (vcons (vflat rfl) vnil))) (small_con _ 4 2 hm' (by omega) (by omega) (by omega)) rfl (by kernel_rfl) fun x Ox hx => ?_
    obtain ⟨d, rfl⟩ := hx
    cases d with
    | false =>
      refine WOps.run dr2 [(22, .bool true), (23, .bool true)] (by kernel_rfl) ?_
      refine WOps.e0 (Th_n (W.condT (by kernel_rfl) (W.seq (W.region ?_))))
      refine o_call (ys := []) (vflats rfl) (awake_con) rfl (by kernel_rfl) fun z Oz hz => ?_
      have hz' : z = _ := hz
      subst hz'
      refine WOps.run dr1 [(4, .bool true)] (by kernel_rfl) ?_
      refine WOps.e0 (Th_n (W.ret (Th_r ?_)))
      exact ret_t (r' := .bool true) (rfl) (.inr rfl) rfl (by kernel_rfl) (vflat rfl)
    | true =>
      refine WOps.run dr2 [(22, .bool false), (23, .bool false)] (by kernel_rfl) ?_
      refine WOps.e0 (Th_n (W.condF (by kernel_rfl) (W.skip (Th_n ?_))))
      have hmv : MV 12 4 [.int .i64 kd, .int .i64 rl, .int .i64 lv, .bool ng, a, b, kids] := by
        obtain ⟨_, _, _, _, _, _, e, _, _, _, _, _, h⟩ := hff
        simp only [List.cons.injEq] at e
        obtain ⟨_, _, _, rfl⟩ := e
        exact h
      refine W.cut (fun T T1 H1 => ∃ (t4 t5 t6 t7 t8 t25 t26 t27 t28 t29 t30 t31 t32 t33 t34 t35 t36 t37 t38 t39 t40 t41 t42 t43 t44 t45 t46 t47 t48 t49 t50 : AV), ups T [(4, t4), (5, t5), (6, t6), (7, t7), (8, t8), (25, t25), (26, t26), (27, t27), (28, t28), (29, t29), (30, t30), (31, t31), (32, t32), (33, t33), (34, t34), (35, t35), (36, t36), (37, t37), (38, t38), (39, t39), (40, t40), (41, t41), (42, t42), (43, t43), (44, t44), (45, t45), (46, t46), (47, t47), (48, t48), (49, t49), (50, t50)] = T1 ∧ Has H1 [(q2, .cells ([.int .i64 fr, al, nm, .int .i64 kd, .int .i64 rl, .int .i64 lv, .bool ng, a, b, kids]))]) ?_ ?_
      · rintro _ H4 ⟨t4, t5, t6, t7, t8, t25, t26, t27, t28, t29, t30, t31, t32, t33, t34, t35, t36, t37, t38, t39, t40, t41, t42, t43, t44, t45, t46, t47, t48, t49, t50, rfl, hh5⟩
        refine W.seq (W.seq (W.region ?_))
        refine o_ld hh5 0 0 (.agg ([.int .i64 fr, al, nm, .int .i64 kd, .int .i64 rl, .int .i64 lv, .bool ng, a, b, kids])) rfl rfl (by kernel_rfl) ?_
        refine o_call (ys := [.agg ([.int .i64 fr, al, nm, .int .i64 kd, .int .i64 rl, .int .i64 lv, .bool ng, a, b, kids])]) (vcons (vagg (vflats (fc rfl (fc f_al (fc f_nm (fc rfl (fc rfl (fc rfl (fc rfl (fc f_a (fc f_b (fc f_kids fn0)))))))))))) vnil) (rValidF_con 4 _ hff (by omega)) rfl (by kernel_rfl) fun w Ow hw => ?_
        obtain ⟨v, rfl, hv⟩ := hw
        refine WOps.e0 (Th_n ?_)
        cases v with
        | true =>
          refine W.condT (by kernel_rfl) (W.seq (W.region ?_))
          refine WOps.run dr1 [(4, .bool true)] (by kernel_rfl) ?_
          refine WOps.e0 (Th_n (W.ret (Th_r ?_)))
          exact ret_t (r' := .bool true) (rfl) (.inr rfl) rfl (by kernel_rfl) (vflat rfl)
        | false =>
          refine W.condF (by kernel_rfl) (W.skip (Th_n (W.seq (W.region ?_))))
          refine o_ld hh5 0 0 (.agg ([.int .i64 fr, al, nm, .int .i64 kd, .int .i64 rl, .int .i64 lv, .bool ng, a, b, kids])) rfl rfl (by kernel_rfl) ?_
          refine o_call (ys := [.agg ([.int .i64 fr, al, nm, .int .i64 kd, .int .i64 rl, .int .i64 lv, .bool ng, a, b, kids])]) (vcons (vagg (vflats (fc rfl (fc f_al (fc f_nm (fc rfl (fc rfl (fc rfl (fc rfl (fc f_a (fc f_b (fc f_kids fn0)))))))))))) vnil) (Eliminate_con 4 _ hff (by omega) (fun h => Bool.noConfusion (hv.2 h))) rfl (by kernel_rfl) fun u Ou hu => ?_
          have hu' : u = _ := hu
          subst hu'
          refine WOps.run dr3 [(53, .tup ([.agg ([.int .i64 0, .int .i64 0, .int .i64 0, .bool false, .nilsl, .nilsl, .nilsl]), .int .i64 9])), (56, .agg ([.int .i64 0, .int .i64 0, .int .i64 0, .bool false, .nilsl, .nilsl, .nilsl])), (57, .int .i64 9)] (by kernel_rfl) ?_
          refine o_al hh5 (.agg ([.int .i64 0, .int .i64 0, .int .i64 0, .bool false, .nilsl, .nilsl, .nilsl])) rfl (by kernel_rfl) fun q9 H6 hh7 => ?_
          refine o_st hh7 0 0 (.agg ([.int .i64 0, .int .i64 0, .int .i64 0, .bool false, .nilsl, .nilsl, .nilsl])) [.int .i64 0, .int .i64 0, .int .i64 0, .bool false, .nilsl, .nilsl, .nilsl] rfl rfl rfl (by kernel_rfl) fun H8 hh9 => ?_
          refine WOps.run dr1 [(10, .int .i64 9)] (by kernel_rfl) ?_
          refine WOps.e0 (Th_n (W.seq (W.region ?_)))
          refine WOps.run dr3 [(58, .int .i64 9), (59, .bool true), (60, .bool true)] (by kernel_rfl) ?_
          refine o_ld hh9 0 0 (.agg ([.int .i64 0, .int .i64 0, .int .i64 0, .bool false, .nilsl, .nilsl, .nilsl])) rfl rfl (by kernel_rfl) ?_
          refine WOps.run dr1 [(62, .agg ([.int .i64 0, .int .i64 0, .int .i64 0, .bool false, .nilsl, .nilsl, .nilsl]))] (by kernel_rfl) ?_
          refine o_call (ys := [.agg ([.int .i64 0, .int .i64 0, .int .i64 0, .bool false, .nilsl, .nilsl, .nilsl]), .agg ([.int .i64 0, .int .i64 0, .int .i64 0, .bool false, .nilsl, .nilsl, .nilsl])]) (vcons (vagg (vflats rfl)) (vcons (vagg (vflats rfl)) vnil)) (equal_con) rfl (by kernel_rfl) fun t Ot ht => ?_
          have ht' : t = _ := ht
          subst ht'
          refine WOps.run dr2 [(64, .bool true), (4, .bool true)] (by kernel_rfl) ?_
          refine WOps.e0 (Th_n (W.ret ?_))
          exact ret_t (r' := .bool true) (rfl) (.inr rfl) rfl (by kernel_rfl) (vflat rfl)
      · refine W.seq (W.region ?_)
        refine WOps.run dr1 [(25, .int .i64 n)] (by kernel_rfl) ?_
        by_cases h1 : n < 1
        · refine o_v2 (.bool (decide ((n : Int) < (1 : Int)))) (.bool true) (congrArg AV.bool (decide_eq_true (h1))) (by kernel_rfl) ?_
          refine WOps.run dr4 [(27, .bool true), (28, .undef), (29, .undef), (30, .bool true)] (by kernel_rfl) ?_
          refine WOps.e0 (Th_n (W.condT (by kernel_rfl) (W.seq (W.region ?_))))
          refine WOps.run dr1 [(32, .ptr q2 3)] (by kernel_rfl) ?_
          refine o_ld hh3 0 3 (.agg ([.int .i64 kd, .int .i64 rl, .int .i64 lv, .bool ng, a, b, kids])) rfl rfl (by kernel_rfl) ?_
          refine WOps.run dr1 [(34, .int .i64 n)] (by kernel_rfl) ?_
          refine o_call (ys := [.agg ([.int .i64 kd, .int .i64 rl, .int .i64 lv, .bool ng, a, b, kids]), .int .i64 n]) (vcons (vagg (vflats (fc rfl (fc rfl (fc rfl (fc rfl (fc f_a (fc f_b (fc f_kids fn0))))))))) (vcons (vflat rfl) vnil)) (Exists_con _ n rfl (fc rfl (fc rfl (fc rfl (fc rfl (fc f_a (fc f_b (fc f_kids fn0))))))) (.inl h1)) rfl (by kernel_rfl) fun u Ou hu => ?_
          have hu' : u = _ := hu
          subst hu'
          refine WOps.run dr3 [(31, .tup ([.agg ([.int .i64 0, .int .i64 0, .int .i64 0, .bool false, .nilsl, .nilsl, .nilsl]), .int .i64 1])), (36, .agg ([.int .i64 0, .int .i64 0, .int .i64 0, .bool false, .nilsl, .nilsl, .nilsl])), (37, .int .i64 1)] (by kernel_rfl) ?_
          refine o_al hh3 (.agg ([.int .i64 0, .int .i64 0, .int .i64 0, .bool false, .nilsl, .nilsl, .nilsl])) rfl (by kernel_rfl) fun q5 H10 hh11 => ?_
          refine o_st hh11 0 0 (.agg ([.int .i64 0, .int .i64 0, .int .i64 0, .bool false, .nilsl, .nilsl, .nilsl])) [.int .i64 0, .int .i64 0, .int .i64 0, .bool false, .nilsl, .nilsl, .nilsl] rfl rfl rfl (by kernel_rfl) fun H12 hh13 => ?_
          refine WOps.run dr1 [(6, .int .i64 1)] (by kernel_rfl) ?_
          refine WOps.e0 (Th_n (W.seq (W.region ?_)))
          refine WOps.run dr1 [(39, .ptr q2 3)] (by kernel_rfl) ?_
          refine o_ld hh13 1 3 (.agg ([.int .i64 kd, .int .i64 rl, .int .i64 lv, .bool ng, a, b, kids])) rfl rfl (by kernel_rfl) ?_
          refine WOps.run dr1 [(41, .int .i64 n)] (by kernel_rfl) ?_
          refine o_call (ys := [.agg ([.int .i64 kd, .int .i64 rl, .int .i64 lv, .bool ng, a, b, kids]), .int .i64 n]) (vcons (vagg (vflats (fc rfl (fc rfl (fc rfl (fc rfl (fc f_a (fc f_b (fc f_kids fn0))))))))) (vcons (vflat rfl) vnil)) (Forall_con 12 4 _ n hmv (by omega) (.inl h1)) rfl (by kernel_rfl) fun t Ot ht => ?_
          have ht' : t = _ := ht
          subst ht'
          refine WOps.run dr3 [(38, .tup ([.agg ([.int .i64 0, .int .i64 0, .int .i64 0, .bool false, .nilsl, .nilsl, .nilsl]), .int .i64 1])), (43, .agg ([.int .i64 0, .int .i64 0, .int .i64 0, .bool false, .nilsl, .nilsl, .nilsl])), (44, .int .i64 1)] (by kernel_rfl) ?_
          refine o_al hh13 (.agg ([.int .i64 0, .int .i64 0, .int .i64 0, .bool false, .nilsl, .nilsl, .nilsl])) rfl (by kernel_rfl) fun q7 H14 hh15 => ?_
          refine o_st hh15 0 0 (.agg ([.int .i64 0, .int .i64 0, .int .i64 0, .bool false, .nilsl, .nilsl, .nilsl])) [.int .i64 0, .int .i64 0, .int .i64 0, .bool false, .nilsl, .nilsl, .nilsl] rfl rfl rfl (by kernel_rfl) fun H16 hh17 => ?_
          refine WOps.run dr1 [(8, .int .i64 1)] (by kernel_rfl) ?_
          refine WOps.e0 (Th_n (W.seq (W.region ?_)))
          refine WOps.run dr6 [(45, .int .i64 1), (46, .bool false), (47, .bool false), (48, .int .i64 1), (49, .bool false), (50, .bool false)] (by kernel_rfl) ?_
          refine WOps.e0 (Th_n (W.condF (by kernel_rfl) (W.skip (Th_n ?_))))
          exact ⟨.bool false, .ptr q5 0, .int .i64 1, .ptr q7 0, .int .i64 1, .int .i64 n, .bool true, .bool true, .undef, .undef, .bool true, .tup ([.agg ([.int .i64 0, .int .i64 0, .int .i64 0, .bool false, .nilsl, .nilsl, .nilsl]), .int .i64 1]), .ptr q2 3, .agg ([.int .i64 kd, .int .i64 rl, .int .i64 lv, .bool ng, a, b, kids]), .int .i64 n, .tup ([.agg ([.int .i64 0, .int .i64 0, .int .i64 0, .bool false, .nilsl, .nilsl, .nilsl]), .int .i64 1]), .agg ([.int .i64 0, .int .i64 0, .int .i64 0, .bool false, .nilsl, .nilsl, .nilsl]), .int .i64 1, .tup ([.agg ([.int .i64 0, .int .i64 0, .int .i64 0, .bool false, .nilsl, .nilsl, .nilsl]), .int .i64 1]), .ptr q2 3, .agg ([.int .i64 kd, .int .i64 rl, .int .i64 lv, .bool ng, a, b, kids]), .int .i64 n, .tup ([.agg ([.int .i64 0, .int .i64 0, .int .i64 0, .bool false, .nilsl, .nilsl, .nilsl]), .int .i64 1]), .agg ([.int .i64 0, .int .i64 0, .int .i64 0, .bool false, .nilsl, .nilsl, .nilsl]), .int .i64 1, .int .i64 1, .bool false, .bool false, .int .i64 1, .bool false, .bool false, by kernel_rfl, hh17.pick [2] (by decide)⟩
        · refine o_v2 (.bool (decide ((n : Int) < (1 : Int)))) (.bool false) (congrArg AV.bool (decide_eq_false (h1))) (by kernel_rfl) ?_
          refine WOps.run dr2 [(27, .bool false), (28, .int .i64 n)] (by kernel_rfl) ?_
          by_cases h4 : n > 4
          · refine o_v2 (.bool (decide ((n : Int) > (4 : Int)))) (.bool true) (congrArg AV.bool (decide_eq_true (h4))) (by kernel_rfl) ?_
            refine WOps.run dr1 [(30, .bool true)] (by kernel_rfl) ?_
            refine WOps.e0 (Th_n (W.condT (by kernel_rfl) (W.seq (W.region ?_))))
            refine WOps.run dr1 [(32, .ptr q2 3)] (by kernel_rfl) ?_
            refine o_ld hh3 0 3 (.agg ([.int .i64 kd, .int .i64 rl, .int .i64 lv, .bool ng, a, b, kids])) rfl rfl (by kernel_rfl) ?_
            refine WOps.run dr1 [(34, .int .i64 n)] (by kernel_rfl) ?_
            refine o_call (ys := [.agg ([.int .i64 kd, .int .i64 rl, .int .i64 lv, .bool ng, a, b, kids]), .int .i64 n]) (vcons (vagg (vflats (fc rfl (fc rfl (fc rfl (fc rfl (fc f_a (fc f_b (fc f_kids fn0))))))))) (vcons (vflat rfl) vnil)) (Exists_con _ n rfl (fc rfl (fc rfl (fc rfl (fc rfl (fc f_a (fc f_b (fc f_kids fn0))))))) (.inr h4)) rfl (by kernel_rfl) fun u Ou hu => ?_
            have hu' : u = _ := hu
            subst hu'
            refine WOps.run dr3 [(31, .tup ([.agg ([.int .i64 0, .int .i64 0, .int .i64 0, .bool false, .nilsl, .nilsl, .nilsl]), .int .i64 1])), (36, .agg ([.int .i64 0, .int .i64 0, .int .i64 0, .bool false, .nilsl, .nilsl, .nilsl])), (37, .int .i64 1)] (by kernel_rfl) ?_
            refine o_al hh3 (.agg ([.int .i64 0, .int .i64 0, .int .i64 0, .bool false, .nilsl, .nilsl, .nilsl])) rfl (by kernel_rfl) fun q5 H18 hh19 => ?_
            refine o_st hh19 0 0 (.agg ([.int .i64 0, .int .i64 0, .int .i64 0, .bool false, .nilsl, .nilsl, .nilsl])) [.int .i64 0, .int .i64 0, .int .i64 0, .bool false, .nilsl, .nilsl, .nilsl] rfl rfl rfl (by kernel_rfl) fun H20 hh21 => ?_
            refine WOps.run dr1 [(6, .int .i64 1)] (by kernel_rfl) ?_
            refine WOps.e0 (Th_n (W.seq (W.region ?_)))
            refine WOps.run dr1 [(39, .ptr q2 3)] (by kernel_rfl) ?_
            refine o_ld hh21 1 3 (.agg ([.int .i64 kd, .int .i64 rl, .int .i64 lv, .bool ng, a, b, kids])) rfl rfl (by kernel_rfl) ?_
            refine WOps.run dr1 [(41, .int .i64 n)] (by kernel_rfl) ?_
            refine o_call (ys := [.agg ([.int .i64 kd, .int .i64 rl, .int .i64 lv, .bool ng, a, b, kids]), .int .i64 n]) (vcons (vagg (vflats (fc rfl (fc rfl (fc rfl (fc rfl (fc f_a (fc f_b (fc f_kids fn0))))))))) (vcons (vflat rfl) vnil)) (Forall_con 12 4 _ n hmv (by omega) (.inr h4)) rfl (by kernel_rfl) fun t Ot ht => ?_
            have ht' : t = _ := ht
            subst ht'
            refine WOps.run dr3 [(38, .tup ([.agg ([.int .i64 0, .int .i64 0, .int .i64 0, .bool false, .nilsl, .nilsl, .nilsl]), .int .i64 1])), (43, .agg ([.int .i64 0, .int .i64 0, .int .i64 0, .bool false, .nilsl, .nilsl, .nilsl])), (44, .int .i64 1)] (by kernel_rfl) ?_
            refine o_al hh21 (.agg ([.int .i64 0, .int .i64 0, .int .i64 0, .bool false, .nilsl, .nilsl, .nilsl])) rfl (by kernel_rfl) fun q7 H22 hh23 => ?_
            refine o_st hh23 0 0 (.agg ([.int .i64 0, .int .i64 0, .int .i64 0, .bool false, .nilsl, .nilsl, .nilsl])) [.int .i64 0, .int .i64 0, .int .i64 0, .bool false, .nilsl, .nilsl, .nilsl] rfl rfl rfl (by kernel_rfl) fun H24 hh25 => ?_
            refine WOps.run dr1 [(8, .int .i64 1)] (by kernel_rfl) ?_
            refine WOps.e0 (Th_n (W.seq (W.region ?_)))
            refine WOps.run dr6 [(45, .int .i64 1), (46, .bool false), (47, .bool false), (48, .int .i64 1), (49, .bool false), (50, .bool false)] (by kernel_rfl) ?_
            refine WOps.e0 (Th_n (W.condF (by kernel_rfl) (W.skip (Th_n ?_))))
            exact ⟨.bool false, .ptr q5 0, .int .i64 1, .ptr q7 0, .int .i64 1, .int .i64 n, .bool false, .bool false, .int .i64 n, .bool true, .bool true, .tup ([.agg ([.int .i64 0, .int .i64 0, .int .i64 0, .bool false, .nilsl, .nilsl, .nilsl]), .int .i64 1]), .ptr q2 3, .agg ([.int .i64 kd, .int .i64 rl, .int .i64 lv, .bool ng, a, b, kids]), .int .i64 n, .tup ([.agg ([.int .i64 0, .int .i64 0, .int .i64 0, .bool false, .nilsl, .nilsl, .nilsl]), .int .i64 1]), .agg ([.int .i64 0, .int .i64 0, .int .i64 0, .bool false, .nilsl, .nilsl, .nilsl]), .int .i64 1, .tup ([.agg ([.int .i64 0, .int .i64 0, .int .i64 0, .bool false, .nilsl, .nilsl, .nilsl]), .int .i64 1]), .ptr q2 3, .agg ([.int .i64 kd, .int .i64 rl, .int .i64 lv, .bool ng, a, b, kids]), .int .i64 n, .tup ([.agg ([.int .i64 0, .int .i64 0, .int .i64 0, .bool false, .nilsl, .nilsl, .nilsl]), .int .i64 1]), .agg ([.int .i64 0, .int .i64 0, .int .i64 0, .bool false, .nilsl, .nilsl, .nilsl]), .int .i64 1, .int .i64 1, .bool false, .bool false, .int .i64 1, .bool false, .bool false, by kernel_rfl, hh25.pick [2] (by decide)⟩
          · refine o_v2 (.bool (decide ((n : Int) > (4 : Int)))) (.bool false) (congrArg AV.bool (decide_eq_false (h4))) (by kernel_rfl) ?_
            refine WOps.run dr1 [(30, .bool false)] (by kernel_rfl) ?_
            refine WOps.e0 (Th_n (W.condF (by kernel_rfl) (W.skip (Th_n ?_))))
            exact ⟨.bool false, .undef, .undef, .undef, .undef, .int .i64 n, .bool false, .bool false, .int .i64 n, .bool false, .bool false, .undef, .undef, .undef, .undef, .undef, .undef, .undef, .undef, .undef, .undef, .undef, .undef, .undef, .undef, .undef, .undef, .undef, .undef, .undef, .undef, by kernel_rfl, hh3.pick [0] (by decide)⟩

end Go.AX
