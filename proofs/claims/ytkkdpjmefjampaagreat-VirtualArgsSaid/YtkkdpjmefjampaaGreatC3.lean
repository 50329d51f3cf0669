/- AX, part 52: the guards on sizes of matrices and prenex forms. -/
import Derived.Test.YtkkdpjmefjampaaGreatC2
set_option linter.unusedVariables false
set_option linter.unusedSimpArgs false
set_option maxRecDepth 4000
set_option maxHeartbeats 4000000
namespace Go.AX
open Go Go.RowKit Go.Proofs
attribute [local irreducible] WOps WD W

theorem TP.shape : ∀ {d : Nat} {cs : List AV}, TP d cs → ∃ lv ng a b, cs = [.int .i64 lv, .bool ng, a, b] ∧ isFlat a = true ∧ isFlat b = true
  | 0, _, ⟨x1, x2, x3, x4, _, _, e, y1, _, y2, _⟩ => ⟨x1, x2, x3, x4, e, y1.flat, y2.flat⟩
  | d + 1, _, ⟨x1, x2, x3, x4, _, _, e, y1, _, y2, _⟩ => ⟨x1, x2, x3, x4, e, y1.flat, y2.flat⟩

theorem TM.v : ∀ {d : Nat} {cs : List AV}, TM d cs → TMv (fun _ _ => True) cs
  | 0, _, h => h
  | d + 1, _, ⟨kd, rl, lv, ng, a, b, kids, lk, e, h1, h2, h3⟩ => ⟨kd, rl, lv, ng, a, b, kids, lk, e, h1, h2.imp fun _ _ _ _ => trivial, h3⟩

theorem room_con : ∀ (d : Nat) (m : List AV) (n : Int), TM d m → 0 ≤ n → n ≤ 2 ^ 40 → d ≤ 2 ^ 40 → Con 59 [.agg m, .int .i64 n, .int .i64 (d : Nat)] (Sp1 59 [.agg m, .int .i64 n, .int .i64 (d : Nat)]) := by
  intro d
  induction d with
  | zero =>
    intro m n hp h0 hn hd
    obtain ⟨kd, rl, lv, ng, a, b, kids, lk, rfl, hpo, hk, hk2⟩ := hp
    obtain ⟨_, _, _, _, e, f_a, f_b⟩ := hpo.shape
    simp at e
    obtain ⟨_, _, rfl, rfl⟩ := e
    have f_kids := hk.flat
    refine con_ret (Sp := Sp1) Tryz.func59 rfl ?_
    show W (ES Sp1) _ _ ⟨[.agg ([.int .i64 kd, .int .i64 rl, .int .i64 lv, .bool ng, a, b, kids]), .int .i64 n, .int .i64 ((0 : Nat) : Int)] ++ List.replicate 34 .undef, []⟩
    have hh1 := @Has.nil ([] : Heap)
    refine W.seq (W.region ?_)
    refine o_bx hh1 (.agg ([.int .i64 kd, .int .i64 rl, .int .i64 lv, .bool ng, a, b, kids])) [.int .i64 kd, .int .i64 rl, .int .i64 lv, .bool ng, a, b, kids] rfl (oc1 rfl (oc1 rfl (oc1 rfl (oc1 rfl (oc1 (one_of_flat f_a) (oc1 (one_of_flat f_b) (oc1 (one_of_flat f_kids) oc0))))))) rfl (by kernel_rfl) fun q3 H2 hh3 => ?_
    refine WOps.run dr1 [(6, .int .i64 0)] (by kernel_rfl) ?_
    refine WOps.e0 (Th_n (W.seq (W.region ?_)))
    refine WOps.run dr1 [(8, .int .i64 n)] (by kernel_rfl) ?_
    refine o_v2 (.int .i64 (IntKind.i64.wrap ((n : Int) - (1 : Int)))) (.int .i64 (n - 1)) (congrArg (AV.int .i64) (by rw [wrapN] <;> omega)) (by kernel_rfl) ?_
    refine WOps.run dr1 [(1, .int .i64 (n - 1))] (by kernel_rfl) ?_
    refine WOps.e0 (Th_n (W.seq (W.seq (W.region ?_))))
    refine WOps.run dr1 [(10, .int .i64 ((0 : Nat) : Int))] (by kernel_rfl) ?_
    refine o_v2 (.bool (((((0 : Nat) : Int) : Int) == (0 : Int)))) (.bool true) (congrArg AV.bool (beq_iff_eq.2 (rfl))) (by kernel_rfl) ?_
    refine WOps.run dr6 [(12, .bool true), (13, .undef), (14, .undef), (15, .undef), (16, .undef), (17, .bool true)] (by kernel_rfl) ?_
    refine WOps.e0 (Th_n (W.condT (by kernel_rfl) (W.seq (W.region ?_))))
    refine WOps.run dr1 [(6, .int .i64 (-1))] (by kernel_rfl) ?_
    refine WOps.e0 (Th_n (W.ret (Th_r ?_)))
    exact ret_t (r' := .int .i64 (-1)) (⟨-1, rfl, by omega, by omega, fun h => by omega⟩) (.inr rfl) rfl (by kernel_rfl) (vflat rfl)
  | succ d ih =>
    intro m n hp h0 hn hd
    obtain ⟨kd, rl, lv, ng, a, b, kids, lk, rfl, hpo, hk, hk2⟩ := hp
    obtain ⟨_, _, _, _, e, f_a, f_b⟩ := hpo.shape
    simp at e
    obtain ⟨_, _, rfl, rfl⟩ := e
    have f_kids := hk.flat
    refine con_ret (Sp := Sp1) Tryz.func59 rfl ?_
    show W (ES Sp1) _ _ ⟨[.agg ([.int .i64 kd, .int .i64 rl, .int .i64 lv, .bool ng, a, b, kids]), .int .i64 n, .int .i64 ((d + 1 : Nat) : Int)] ++ List.replicate 34 .undef, []⟩
    have hh4 := @Has.nil ([] : Heap)
    refine W.seq (W.region ?_)
    refine o_bx hh4 (.agg ([.int .i64 kd, .int .i64 rl, .int .i64 lv, .bool ng, a, b, kids])) [.int .i64 kd, .int .i64 rl, .int .i64 lv, .bool ng, a, b, kids] rfl (oc1 rfl (oc1 rfl (oc1 rfl (oc1 rfl (oc1 (one_of_flat f_a) (oc1 (one_of_flat f_b) (oc1 (one_of_flat f_kids) oc0))))))) rfl (by kernel_rfl) fun q3 H5 hh6 => ?_
    refine WOps.run dr1 [(6, .int .i64 0)] (by kernel_rfl) ?_
    refine WOps.e0 (Th_n (W.seq (W.region ?_)))
    refine WOps.run dr1 [(8, .int .i64 n)] (by kernel_rfl) ?_
    refine o_v2 (.int .i64 (IntKind.i64.wrap ((n : Int) - (1 : Int)))) (.int .i64 (n - 1)) (congrArg (AV.int .i64) (by rw [wrapN] <;> omega)) (by kernel_rfl) ?_
    refine WOps.run dr1 [(1, .int .i64 (n - 1))] (by kernel_rfl) ?_
    refine WOps.e0 (Th_n (W.seq (W.seq (W.region ?_))))
    refine WOps.run dr1 [(10, .int .i64 ((d + 1 : Nat) : Int))] (by kernel_rfl) ?_
    refine o_v2 (.bool (((((d + 1 : Nat) : Int) : Int) == (0 : Int)))) (.bool false) (congrArg AV.bool (beq_eq_false_iff_ne.2 (by omega))) (by kernel_rfl) ?_
    refine WOps.run dr2 [(12, .bool false), (13, .ptr q3 2)] (by kernel_rfl) ?_
    refine o_ld hh6 0 2 (.agg ([.int .i64 lv, .bool ng, a, b])) rfl rfl (by kernel_rfl) ?_
    refine o_call (ys := [.agg ([.int .i64 lv, .bool ng, a, b]), .int .i64 40, .int .i64 4]) (vcons (vagg (vflats (fc rfl (fc rfl (fc f_a (fc f_b fn0)))))) (vcons (vflat rfl) (vcons (vflat rfl) vnil))) (FewPoly_con _ 40 4 hpo (by omega) (by omega)) rfl (by kernel_rfl) fun z Oz hz => ?_
    obtain ⟨c, rfl, hz⟩ := hz
    cases c with
    | false =>
      refine WOps.run dr2 [(16, .bool true), (17, .bool true)] (by kernel_rfl) ?_
      refine WOps.e0 (Th_n (W.condT (by kernel_rfl) (W.seq (W.region ?_))))
      refine WOps.run dr1 [(6, .int .i64 (-1))] (by kernel_rfl) ?_
      refine WOps.e0 (Th_n (W.ret (Th_r ?_)))
      exact ret_t (r' := .int .i64 (-1)) (⟨-1, rfl, by omega, by omega, fun h => by omega⟩) (.inr rfl) rfl (by kernel_rfl) (vflat rfl)
    | true =>
      refine WOps.run dr2 [(16, .bool false), (17, .bool false)] (by kernel_rfl) ?_
      refine WOps.e0 (Th_n (W.condF (by kernel_rfl) (W.skip (Th_n (W.seq (W.seq (W.region ?_)))))))
      refine WOps.run dr1 [(18, .ptr q3 6)] (by kernel_rfl) ?_
      refine o_ld hh6 0 6 (kids) rfl rfl (by kernel_rfl) ?_
      have hrv := hz rfl
      refine o_vb (.int .i64 (lk : Nat)) (hk.len P30 _) (by kernel_rfl) ?_
      refine WOps.run dr1 [(21, .int .i64 0)] (by kernel_rfl) ?_
      refine WOps.e0 (Th_n (W.blk ?_))
      refine W.lp (fun T u T1 H1 => ∃ (t6 t7 t22 t23 t24 t25 t26 t27 t28 t29 t30 t31 t32 t33 t34 t35 : AV) (i : Nat) (c : Int), ups T [(1, .int .i64 c), (6, t6), (7, t7), (21, .int .i64 (i : Nat)), (22, t22), (23, t23), (24, t24), (25, t25), (26, t26), (27, t27), (28, t28), (29, t29), (30, t30), (31, t31), (32, t32), (33, t33), (34, t34), (35, t35)] = T1 ∧ Has H1 [(q3, .cells ([.int .i64 kd, .int .i64 rl, .int .i64 lv, .bool ng, a, b, kids]))] ∧ i + u = lk ∧ -1 ≤ c ∧ c < n ∧ (0 ≤ c → ∃ f : Nat → Nat, (sumN f i : Int) + 1 ≤ n - c ∧ ∀ (j : Nat) x, j < i → (elems 7 kids)[j]? = some x → MV d (f j) x)) (lk) ⟨.int .i64 0, .undef, .undef, .undef, .undef, .undef, .undef, .undef, .undef, .undef, .undef, .undef, .undef, .undef, .undef, .undef, 0, n - 1, by kernel_rfl, hh6.pick [0] (by decide), Nat.zero_add _, by omega, by omega, fun _ => ⟨fun _ => 0, by simp only [sumN]; omega, fun j x hj => by omega⟩⟩ ?_
      rintro u _ H7 ⟨t6, t7, t22, t23, t24, t25, t26, t27, t28, t29, t30, t31, t32, t33, t34, t35, i, c, rfl, hh8, hi, hc1, hc2, hall⟩
      refine W.seq (W.region ?_)
      by_cases hlt : i < lk
      · refine o_v2 (.bool (decide (((i : Nat) : Int) < ((lk : Nat) : Int)))) (.bool true) (congrArg AV.bool (decide_eq_true (by omega))) (by kernel_rfl) ?_
        refine WOps.e0 (Th_n (W.seq (W.condT (by kernel_rfl) (W.skip (Th_n (W.seq (W.blk (W.seq (W.region ?_)))))))))
        refine WOps.run dr2 [(23, .int .i64 (i : Nat)), (7, .int .i64 (i : Nat))] (by kernel_rfl) ?_
        refine WOps.e0 (Th_n (W.seq (W.seq (W.region ?_))))
        refine WOps.run dr1 [(24, .int .i64 c)] (by kernel_rfl) ?_
        by_cases hc : c < 0
        · refine o_v2 (.bool (decide ((c : Int) < (0 : Int)))) (.bool true) (congrArg AV.bool (decide_eq_true (hc))) (by kernel_rfl) ?_
          refine WOps.e0 (Th_n (W.condT (by kernel_rfl) (W.seq (W.region ?_))))
          refine WOps.run dr1 [(6, .int .i64 (-1))] (by kernel_rfl) ?_
          refine WOps.e0 (Th_n (W.ret (Th_r (Bk_r (Th_r (Th_r (Bk_r (Th_r ?_))))))))
          exact ret_t (r' := .int .i64 (-1)) (⟨-1, rfl, by omega, by omega, fun h => by omega⟩) (.inr rfl) rfl (by kernel_rfl) (vflat rfl)
        · refine o_v2 (.bool (decide ((c : Int) < (0 : Int)))) (.bool false) (congrArg AV.bool (decide_eq_false (hc))) (by kernel_rfl) ?_
          refine WOps.e0 (Th_n (W.condF (by kernel_rfl) (W.skip (Th_n (W.region ?_)))))
          refine WOps.run dr1 [(26, .ptr q3 6)] (by kernel_rfl) ?_
          refine o_ld hh8 0 6 (kids) rfl rfl (by kernel_rfl) ?_
          refine WOps.run dr1 [(28, .int .i64 (i : Nat))] (by kernel_rfl) ?_
          obtain ⟨pp, cs, hpp, hld, hcs, hel⟩ := hk.gete P30 size32 agg32 hlt
          obtain ⟨kd2, rl2, lv2, ng2, a2, e2, kids2, lk2, rfl, hpo2, hk3, hk4⟩ := hcs.v
          obtain ⟨_, _, _, _, e, f_a2, f_e2⟩ := hpo2.shape
          simp at e
          obtain ⟨_, _, rfl, rfl⟩ := e
          have f_kids2 := hk3.flat
          refine o_vk (pp) (hpp) (by kernel_rfl) ?_
          refine o_vk (.agg ([.int .i64 kd2, .int .i64 rl2, .int .i64 lv2, .bool ng2, a2, e2, kids2])) ((hld) H7) (by kernel_rfl) ?_
          refine WOps.run dr2 [(31, .int .i64 c), (32, .int .i64 ((d + 1 : Nat) : Int))] (by kernel_rfl) ?_
          refine o_v2 (.int .i64 (IntKind.i64.wrap ((((d + 1 : Nat) : Int) : Int) - (1 : Int)))) (.int .i64 (((d : Nat) : Int))) (congrArg (AV.int .i64) (by rw [wrapN] <;> omega)) (by kernel_rfl) ?_
          refine o_call (ys := [.agg ([.int .i64 kd2, .int .i64 rl2, .int .i64 lv2, .bool ng2, a2, e2, kids2]), .int .i64 c, .int .i64 ((d : Nat) : Int)]) (vcons (vagg (vflats (fc rfl (fc rfl (fc rfl (fc rfl (fc f_a2 (fc f_e2 (fc f_kids2 fn0))))))))) (vcons (vflat rfl) (vcons (vflat rfl) vnil))) (ih _ c hcs (by omega) (by omega) (by omega)) rfl (by kernel_rfl) fun z Oz hz => ?_
          obtain ⟨c2, rfl, hz1, hz2, hz3⟩ := hz
          refine WOps.run dr1 [(1, .int .i64 c2)] (by kernel_rfl) ?_
          refine WOps.e0 (Bk_n (Th_n (W.region ?_)))
          refine o_v2 (.int .i64 (IntKind.i64.wrap (((i : Nat) : Int) + (1 : Int)))) (.int .i64 (((i + 1 : Nat) : Int))) (congrArg (AV.int .i64) (by rw [wrapN] <;> omega)) (by kernel_rfl) ?_
          refine WOps.run dr1 [(21, .int .i64 ((i + 1 : Nat) : Int))] (by kernel_rfl) ?_
          refine WOps.e0 (Th_n ?_)
          have hnew : 0 ≤ c2 → ∃ f : Nat → Nat, (sumN f (i + 1) : Int) + 1 ≤ n - c2 ∧ ∀ (j : Nat) x, j < i + 1 → (elems 7 kids)[j]? = some x → MV d (f j) x := by
            intro h
            obtain ⟨f, g1, g2⟩ := hall (by omega)
            refine ⟨fun j => if j = i then (c - c2).toNat else f j, ?_, fun j x hj hx => ?_⟩
            · simp only [sumN, if_true]
              rw [sumN_congr (g := f) fun j hj => by rw [if_neg (by omega)]]
              omega
            · by_cases hji : j = i
              · subst hji
                simp only [if_true]
                rw [hel] at hx
                simp only [Option.some.injEq] at hx
                rw [← hx]
                exact hz3 h
              · simp only [hji, if_false]
                exact g2 j x (by omega) hx
          exact ⟨u - 1, by omega, t6, .int .i64 (i : Nat), .bool true, .int .i64 (i : Nat), .int .i64 c, .bool false, .ptr q3 6, kids, .int .i64 (i : Nat), pp, .agg ([.int .i64 kd2, .int .i64 rl2, .int .i64 lv2, .bool ng2, a2, e2, kids2]), .int .i64 c, .int .i64 ((d + 1 : Nat) : Int), .int .i64 ((d : Nat) : Int), .int .i64 c2, .int .i64 ((i + 1 : Nat) : Int), i + 1, c2, by kernel_rfl, hh8.pick [0] (by decide), by omega, hz1, by omega, hnew⟩
      · refine o_v2 (.bool (decide (((i : Nat) : Int) < ((lk : Nat) : Int)))) (.bool false) (congrArg AV.bool (decide_eq_false (by omega))) (by kernel_rfl) ?_
        refine WOps.e0 (Th_n (W.seq (W.condF (by kernel_rfl) (W.exit (Th_e (Th_e (Bk_s (Th_n (W.seq (W.region ?_))))))))))
        refine WOps.run dr2 [(36, .int .i64 c), (6, .int .i64 c)] (by kernel_rfl) ?_
        refine WOps.e0 (Th_n (W.ret ?_))
        exact ret_t (r' := .int .i64 c) (⟨c, rfl, hc1, hc2, fun h => by obtain ⟨f, g1, g2⟩ := hall h; exact ⟨kd, rl, lv, ng, a, b, kids, lk, f, rfl, hrv, hk.of_el fun j x hj hx => g2 j x (by omega) hx, by have : i = lk := (by omega); subst this; omega⟩⟩) (.inr rfl) rfl (by kernel_rfl) (vflat rfl)

theorem Few_con (m : List AV) (n : Int) (hm : TM 12 m) (h0 : 0 ≤ n) (hn : n ≤ 2 ^ 40) : Con 28 [.agg m, .int .i64 n] (Sp1 28 [.agg m, .int .i64 n]) := by
  have hm' := hm
  obtain ⟨kd, rl, lv, ng, a, b, kids, lk, rfl, hpo, hk, hk2⟩ := hm
  obtain ⟨_, _, _, _, e, f_a, f_b⟩ := hpo.shape
  simp at e
  obtain ⟨_, _, rfl, rfl⟩ := e
  have f_kids := hk.flat
  refine con_ret (Sp := Sp1) Tryz.func28 rfl ?_
  show W (ES Sp1) _ _ ⟨[.agg ([.int .i64 kd, .int .i64 rl, .int .i64 lv, .bool ng, a, b, kids]), .int .i64 n] ++ List.replicate 7 .undef, []⟩
  have hh9 := @Has.nil ([] : Heap)
  refine W.seq (W.region ?_)
  refine o_bx hh9 (.agg ([.int .i64 kd, .int .i64 rl, .int .i64 lv, .bool ng, a, b, kids])) [.int .i64 kd, .int .i64 rl, .int .i64 lv, .bool ng, a, b, kids] rfl (oc1 rfl (oc1 rfl (oc1 rfl (oc1 rfl (oc1 (one_of_flat f_a) (oc1 (one_of_flat f_b) (oc1 (one_of_flat f_kids) oc0))))))) rfl (by kernel_rfl) fun q2 H10 hh11 => ?_
  refine WOps.run dr1 [(4, .bool false)] (by kernel_rfl) ?_
  refine WOps.e0 (Th_n (W.seq (W.region ?_)))
  refine o_ld hh11 0 0 (.agg ([.int .i64 kd, .int .i64 rl, .int .i64 lv, .bool ng, a, b, kids])) rfl rfl (by kernel_rfl) ?_
  refine WOps.run dr1 [(6, .int .i64 n)] (by kernel_rfl) ?_
  refine o_call (ys := [.agg ([.int .i64 kd, .int .i64 rl, .int .i64 lv, .bool ng, a, b, kids]), .int .i64 n, .int .i64 12]) (vcons (vagg (vflats (fc rfl (fc rfl (fc rfl (fc rfl (fc f_a (fc f_b (fc f_kids fn0))))))))) (vcons (vflat rfl) (vcons (vflat rfl) vnil))) (room_con 12 _ n hm' h0 hn (by omega)) rfl (by kernel_rfl) fun z Oz hz => ?_
  obtain ⟨k, rfl, hz1, hz2, hz3⟩ := hz
  by_cases hk0 : k ≥ 0
  · refine o_v2 (.bool (decide ((k : Int) ≥ (0 : Int)))) (.bool true) (congrArg AV.bool (decide_eq_true (hk0))) (by kernel_rfl) ?_
    refine WOps.run dr1 [(4, .bool true)] (by kernel_rfl) ?_
    refine WOps.e0 (Th_n (W.ret ?_))
    exact ret_t (r' := .bool true) (⟨true, rfl, fun _ => (hz3 hk0).mono (by omega)⟩) (.inr rfl) rfl (by kernel_rfl) (vflat rfl)
  · refine o_v2 (.bool (decide ((k : Int) ≥ (0 : Int)))) (.bool false) (congrArg AV.bool (decide_eq_false (hk0))) (by kernel_rfl) ?_
    refine WOps.run dr1 [(4, .bool false)] (by kernel_rfl) ?_
    refine WOps.e0 (Th_n (W.ret ?_))
    exact ret_t (r' := .bool false) (⟨false, rfl, fun h => by simp at h⟩) (.inr rfl) rfl (by kernel_rfl) (vflat rfl)

theorem FewForm_con (p : List AV) (n : Int) (hp : TF p) (h0 : 0 ≤ n) (hn : n ≤ 2 ^ 40) : Con 16 [.agg p, .int .i64 n] (Sp1 16 [.agg p, .int .i64 n]) := by
  obtain ⟨fr, al, nm, m, la, ln, rfl, hfr, hal, hal2, hnm, hnm2, hm⟩ := hp
  have hm' := hm
  obtain ⟨kd, rl, lv, ng, a, b, kids, lk, rfl, hpo, hk, hk2⟩ := hm
  obtain ⟨_, _, _, _, e, f_a, f_b⟩ := hpo.shape
  simp at e
  obtain ⟨_, _, rfl, rfl⟩ := e
  have f_kids := hk.flat
  have f_al := hal.flat
  have f_nm := hnm.flat
  refine con_ret (Sp := Sp1) Tryz.func16 rfl ?_
  show W (ES Sp1) _ _ ⟨[.agg ([.int .i64 fr, al, nm, .int .i64 kd, .int .i64 rl, .int .i64 lv, .bool ng, a, b, kids]), .int .i64 n] ++ List.replicate 32 .undef, []⟩
  have hh12 := @Has.nil ([] : Heap)
  refine W.seq (W.region ?_)
  refine o_bx hh12 (.agg ([.int .i64 fr, al, nm, .int .i64 kd, .int .i64 rl, .int .i64 lv, .bool ng, a, b, kids])) [.int .i64 fr, al, nm, .int .i64 kd, .int .i64 rl, .int .i64 lv, .bool ng, a, b, kids] rfl (oc1 rfl (oc1 (one_of_flat f_al) (oc1 (one_of_flat f_nm) (oc1 rfl (oc1 rfl (oc1 rfl (oc1 rfl (oc1 (one_of_flat f_a) (oc1 (one_of_flat f_b) (oc1 (one_of_flat f_kids) oc0)))))))))) rfl (by kernel_rfl) fun q2 H13 hh14 => ?_
  refine WOps.run dr1 [(4, .bool false)] (by kernel_rfl) ?_
  refine WOps.e0 (Th_n (W.seq (W.seq (W.region ?_))))
  refine WOps.run dr1 [(6, .ptr q2 2)] (by kernel_rfl) ?_
  refine o_ld hh14 0 2 (nm) rfl rfl (by kernel_rfl) ?_
  refine o_vb (.int .i64 (ln : Nat)) (hnm.len P48 _) (by kernel_rfl) ?_
  refine WOps.run dr1 [(9, .int .i64 0)] (by kernel_rfl) ?_
  refine WOps.e0 (Th_n (W.blk ?_))
  refine W.lp (fun T u T1 H1 => ∃ (t4 t5 t10 t11 t12 t13 t14 t15 t16 t17 t18 t19 t20 t21 t22 t23 : AV) (i : Nat), ups T [(4, t4), (5, t5), (9, .int .i64 (i : Nat)), (10, t10), (11, t11), (12, t12), (13, t13), (14, t14), (15, t15), (16, t16), (17, t17), (18, t18), (19, t19), (20, t20), (21, t21), (22, t22), (23, t23)] = T1 ∧ Has H1 [(q2, .cells ([.int .i64 fr, al, nm, .int .i64 kd, .int .i64 rl, .int .i64 lv, .bool ng, a, b, kids]))] ∧ i + u = ln ∧ i ≤ 8 ∧ ∀ (j : Nat) x, j < i → (elems 1 nm)[j]? = some x → ∃ s : ByteArray, x = [.str s] ∧ s.size ≤ 40) (ln) ⟨.bool false, .undef, .undef, .undef, .undef, .undef, .undef, .undef, .undef, .undef, .undef, .undef, .undef, .undef, .undef, .undef, 0, by kernel_rfl, hh14.pick [0] (by decide), Nat.zero_add _, by omega, fun j x hj => by omega⟩ ?_
  rintro u _ H15 ⟨t4, t5, t10, t11, t12, t13, t14, t15, t16, t17, t18, t19, t20, t21, t22, t23, i, rfl, hh16, hi, hall, hall2⟩
  refine W.seq (W.region ?_)
  by_cases hlt : i < ln
  · refine o_v2 (.bool (decide (((i : Nat) : Int) < ((ln : Nat) : Int)))) (.bool true) (congrArg AV.bool (decide_eq_true (by omega))) (by kernel_rfl) ?_
    refine WOps.e0 (Th_n (W.seq (W.condT (by kernel_rfl) (W.skip (Th_n (W.seq (W.blk (W.seq (W.region ?_)))))))))
    refine WOps.run dr2 [(11, .int .i64 (i : Nat)), (5, .int .i64 (i : Nat))] (by kernel_rfl) ?_
    refine WOps.e0 (Th_n (W.seq (W.region ?_)))
    refine WOps.run dr1 [(12, .int .i64 (i : Nat))] (by kernel_rfl) ?_
    by_cases h8 : i ≥ 8
    · refine o_v2 (.bool (decide (((i : Nat) : Int) ≥ (8 : Int)))) (.bool true) (congrArg AV.bool (decide_eq_true (by omega))) (by kernel_rfl) ?_
      refine WOps.run dr9 [(14, .bool true), (15, .undef), (16, .undef), (17, .undef), (18, .undef), (19, .undef), (20, .undef), (21, .undef), (22, .bool true)] (by kernel_rfl) ?_
      refine WOps.e0 (Th_n (W.condT (by kernel_rfl) (W.seq (W.region ?_))))
      refine WOps.run dr1 [(4, .bool false)] (by kernel_rfl) ?_
      refine WOps.e0 (Th_n (W.ret (Bk_r (Th_r (Th_r (Bk_r (Th_r ?_)))))))
      exact ret_t (r' := .bool false) (⟨false, rfl, fun h => by simp at h⟩) (.inr rfl) rfl (by kernel_rfl) (vflat rfl)
    · refine o_v2 (.bool (decide (((i : Nat) : Int) ≥ (8 : Int)))) (.bool false) (congrArg AV.bool (decide_eq_false (by omega))) (by kernel_rfl) ?_
      refine WOps.run dr2 [(14, .bool false), (15, .ptr q2 2)] (by kernel_rfl) ?_
      refine o_ld hh16 0 2 (nm) rfl rfl (by kernel_rfl) ?_
      refine WOps.run dr1 [(17, .int .i64 (i : Nat))] (by kernel_rfl) ?_
      obtain ⟨pp, v, hpp, hld, hv, hel⟩ := hnm.gete1 P48 size9 agg9 hlt
      obtain ⟨s, hs, hs2⟩ := hv
      simp only [List.cons.injEq, and_true] at hs
      subst hs
      refine o_vk (pp) (hpp) (by kernel_rfl) ?_
      refine o_vk (.str s) ((hld) H15) (by kernel_rfl) ?_
      refine o_vb (.int .i64 (s.size : Nat)) (rfl) (by kernel_rfl) ?_
      by_cases h40 : s.size > 40
      · refine o_v2 (.bool (decide (((s.size : Nat) : Int) > (40 : Int)))) (.bool true) (congrArg AV.bool (decide_eq_true (by omega))) (by kernel_rfl) ?_
        refine WOps.run dr1 [(22, .bool true)] (by kernel_rfl) ?_
        refine WOps.e0 (Th_n (W.condT (by kernel_rfl) (W.seq (W.region ?_))))
        refine WOps.run dr1 [(4, .bool false)] (by kernel_rfl) ?_
        refine WOps.e0 (Th_n (W.ret (Bk_r (Th_r (Th_r (Bk_r (Th_r ?_)))))))
        exact ret_t (r' := .bool false) (⟨false, rfl, fun h => by simp at h⟩) (.inr rfl) rfl (by kernel_rfl) (vflat rfl)
      · refine o_v2 (.bool (decide (((s.size : Nat) : Int) > (40 : Int)))) (.bool false) (congrArg AV.bool (decide_eq_false (by omega))) (by kernel_rfl) ?_
        refine WOps.run dr1 [(22, .bool false)] (by kernel_rfl) ?_
        refine WOps.e0 (Th_n (W.condF (by kernel_rfl) (W.skip (Bk_n (Th_n (W.region ?_))))))
        refine o_v2 (.int .i64 (IntKind.i64.wrap (((i : Nat) : Int) + (1 : Int)))) (.int .i64 (((i + 1 : Nat) : Int))) (congrArg (AV.int .i64) (by rw [wrapN] <;> omega)) (by kernel_rfl) ?_
        refine WOps.run dr1 [(9, .int .i64 ((i + 1 : Nat) : Int))] (by kernel_rfl) ?_
        refine WOps.e0 (Th_n ?_)
        exact ⟨u - 1, by omega, t4, .int .i64 (i : Nat), .bool true, .int .i64 (i : Nat), .int .i64 (i : Nat), .bool false, .bool false, .ptr q2 2, nm, .int .i64 (i : Nat), pp, .str s, .int .i64 (s.size : Nat), .bool false, .bool false, .int .i64 ((i + 1 : Nat) : Int), i + 1, by kernel_rfl, hh16.pick [0] (by decide), by omega, by omega, fun j x hj hx => (Nat.lt_succ_iff_lt_or_eq.1 hj).elim (fun h => hall2 j x h hx) fun h => by rw [h, hel] at hx; simp at hx; exact ⟨s, hx.symm, by omega⟩⟩
  · refine o_v2 (.bool (decide (((i : Nat) : Int) < ((ln : Nat) : Int)))) (.bool false) (congrArg AV.bool (decide_eq_false (by omega))) (by kernel_rfl) ?_
    refine WOps.e0 (Th_n (W.seq (W.condF (by kernel_rfl) (W.exit (Th_e (Th_e (Bk_s (Th_n (W.seq (W.region ?_))))))))))
    refine WOps.run dr1 [(24, .ptr q2 1)] (by kernel_rfl) ?_
    refine o_ld hh16 0 1 (al) rfl rfl (by kernel_rfl) ?_
    refine o_vb (.int .i64 (la : Nat)) (hal.len P47 _) (by kernel_rfl) ?_
    by_cases h8 : la ≤ 8
    · refine o_v2 (.bool (decide (((la : Nat) : Int) ≤ (8 : Int)))) (.bool true) (congrArg AV.bool (decide_eq_true (by omega))) (by kernel_rfl) ?_
      refine WOps.run dr2 [(28, .bool true), (29, .ptr q2 3)] (by kernel_rfl) ?_
      refine o_ld hh16 0 3 (.agg ([.int .i64 kd, .int .i64 rl, .int .i64 lv, .bool ng, a, b, kids])) rfl rfl (by kernel_rfl) ?_
      refine WOps.run dr1 [(31, .int .i64 n)] (by kernel_rfl) ?_
      refine o_call (ys := [.agg ([.int .i64 kd, .int .i64 rl, .int .i64 lv, .bool ng, a, b, kids]), .int .i64 n]) (vcons (vagg (vflats (fc rfl (fc rfl (fc rfl (fc rfl (fc f_a (fc f_b (fc f_kids fn0))))))))) (vcons (vflat rfl) vnil)) (Few_con _ n hm' h0 hn) rfl (by kernel_rfl) fun z Oz hz => ?_
      obtain ⟨c, rfl, hz⟩ := hz
      refine WOps.run dr2 [(33, .bool c), (4, .bool c)] (by kernel_rfl) ?_
      refine WOps.e0 (Th_n (W.ret ?_))
      cases c with
      | false =>
        exact ret_t (r' := .bool false) (⟨false, rfl, fun h => by simp at h⟩) (.inr rfl) rfl (by kernel_rfl) (vflat rfl)
      | true =>
        exact ret_t (r' := .bool true) (⟨true, rfl, fun _ => ⟨fr, al, nm, _, la, ln, rfl, hfr, hal, h8, hnm.of_el fun j x hj hx => hall2 j x (by omega) hx, by omega, hz rfl⟩⟩) (.inr rfl) rfl (by kernel_rfl) (vflat rfl)
    · refine o_v2 (.bool (decide (((la : Nat) : Int) ≤ (8 : Int)))) (.bool false) (congrArg AV.bool (decide_eq_false (by omega))) (by kernel_rfl) ?_
      refine WOps.run dr7 [(28, .bool false), (29, .undef), (30, .undef), (31, .undef), (32, .undef), (33, .bool false), (4, .bool false)] (by kernel_rfl) ?_
      refine WOps.e0 (Th_n (W.ret ?_))
      exact ret_t (r' := .bool false) (⟨false, rfl, fun h => by simp at h⟩) (.inr rfl) rfl (by kernel_rfl) (vflat rfl)

end Go.AX

/- AX, part 53: normal matrices, in plain words. -/
set_option linter.unusedVariables false
set_option linter.unusedSimpArgs false
set_option maxRecDepth 4000
set_option maxHeartbeats 4000000
namespace Go.AX
open Go Go.RowKit Go.Proofs

abbrev L0 : Nat := nL 6 12
abbrev N0 : Nat := nN 6 12 4
theorem L0_le : L0 ≤ 2 ^ 20 := by decide
theorem N0_le : N0 ≤ 2 ^ 20 := by decide

/-- A normal matrix of at most N nodes, in at most d levels. -/
def MN : Nat → Nat → List AV → Prop
  | 0, _, _ => False
  | d + 1, N, cs => ∃ kd rl lv ng a b kids lk f, cs = [.int .i64 kd, .int .i64 rl, .int .i64 lv, .bool ng, a, b, kids] ∧ CV 4 L0 N0 [.int .i64 lv, .bool ng, a, b] ∧ LS 7 (fun i c => MN d (f i) c) kids lk ∧ sumN f lk + 1 ≤ N

theorem MN.mono : ∀ {d N N' : Nat} {cs : List AV}, MN d N cs → N ≤ N' → MN d N' cs
  | 0, _, _, _, h, _ => h.elim
  | d + 1, N, N', cs, ⟨kd, rl, lv, ng, a, b, kids, lk, f, h1, h2, h3, h4⟩, h => ⟨kd, rl, lv, ng, a, b, kids, lk, f, h1, h2, h3, by omega⟩

theorem norm_cv {d L n : Nat} {p : List AV} (hp : RV d L n p) (hL : L ≤ 2 ^ 20) (h1 : nL d L ≤ 2 ^ 30) (h2 : nN d L n ≤ 2 ^ 30) : (ES Spec).O 40 [.agg p] = some (.agg (norm p)) ∧ CV 4 (nL d L) (nN d L n) (norm p) := by
  obtain ⟨r, hO, hr⟩ := es_O (Sp := Spec) (pNormal_spec hp hL h1 h2)
  obtain ⟨cs, rfl, hc⟩ := hr d L n hp
  have e : norm p = cs := by unfold norm; rw [hO]
  rw [e]
  exact ⟨hO, hc⟩

theorem norm0 {p : List AV} (hp : RV 6 12 4 p) : (ES Spec).O 40 [.agg p] = some (.agg (norm p)) ∧ CV 4 L0 N0 (norm p) := norm_cv hp (by omega) (Nat.le_trans L0_le (by omega)) (Nat.le_trans N0_le (by omega))

theorem elems_len {k : Nat} {P : Nat → List AV → Prop} {a : AV} {len : Nat} (h : LS k P a len) : (elems k a).length = len := h.el.1

theorem sumN_le {f g : Nat → Nat} : ∀ {n : Nat}, (∀ i, i < n → f i ≤ g i) → sumN f n ≤ sumN g n
  | 0, _ => Nat.le_refl _
  | n + 1, h => by
    have := sumN_le (n := n) fun i hi => h i (by omega)
    have := h n (by omega)
    simp only [sumN]
    omega

theorem sumN_ge {f : Nat → Nat} : ∀ {n : Nat}, (∀ i, i < n → 1 ≤ f i) → n ≤ sumN f n
  | 0, _ => Nat.le_refl _
  | n + 1, h => by
    have := sumN_ge (n := n) fun i hi => h i (by omega)
    have := h n (by omega)
    simp only [sumN]
    omega

theorem MN.pos : ∀ {d N : Nat} {cs : List AV}, MN d N cs → 1 ≤ N
  | 0, _, _, h => h.elim
  | d + 1, N, cs, ⟨kd, rl, lv, ng, a, b, kids, lk, f, h1, h2, h3, h4⟩ => by omega

theorem MV.pos : ∀ {d N : Nat} {cs : List AV}, MV d N cs → 1 ≤ N
  | 0, _, _, h => h.elim
  | d + 1, N, cs, ⟨kd, rl, lv, ng, a, b, kids, lk, f, h1, h2, h3, h4⟩ => by omega

theorem flatMap_len {α β : Type} {g : α → List β} {f : Nat → Nat} : ∀ {l : List α} , (∀ (i : Nat) x, l[i]? = some x → (g x).length ≤ f i) → (l.flatMap g).length ≤ sumN f l.length
  | [], _ => Nat.zero_le _
  | a :: l, h => by
    have hs : ∀ n, sumN f (n + 1) = f 0 + sumN (fun i => f (i + 1)) n := by
      intro n
      induction n with
      | zero => simp [sumN]
      | succ n ih => rw [sumN, ih]; simp only [sumN]; omega
    have h0 := h 0 a rfl
    have := flatMap_len (g := g) (f := fun i => f (i + 1)) (l := l) fun i x hx => h (i + 1) x (by simpa using hx)
    rw [List.flatMap_cons, List.length_append, List.length_cons, hs]
    omega

theorem flatMap_congr' {α β : Type} {g h : α → List β} : ∀ {l : List α}, (∀ (i : Nat) x, l[i]? = some x → g x = h x) → l.flatMap g = l.flatMap h
  | [], _ => rfl
  | a :: l, hh => by
    rw [List.flatMap_cons, List.flatMap_cons, hh 0 a rfl, flatMap_congr' fun i x hx => hh (i + 1) x (by simpa using hx)]

theorem mpolys_len : ∀ {d N : Nat} {cs : List AV}, MN d N cs → (mpolys d cs).length ≤ N
  | 0, _, _, h => h.elim
  | d + 1, N, cs, ⟨kd, rl, lv, ng, a, b, kids, lk, f, h1, h2, h3, h4⟩ => by
    subst h1
    simp only [mpolys]
    split
    · simp; omega
    · have := flatMap_len (g := mpolys d) (f := f) (l := elems 7 kids) fun i x hx => mpolys_len (h3.el.2 i x hx)
      rw [h3.el.1] at this
      omega

theorem mpolys_stable : ∀ {d N : Nat} {cs : List AV}, MN d N cs → ∀ {e : Nat}, d ≤ e → mpolys e cs = mpolys d cs
  | 0, _, _, h, _, _ => h.elim
  | d + 1, N, cs, ⟨kd, rl, lv, ng, a, b, kids, lk, f, h1, h2, h3, h4⟩, 0, he => by omega
  | d + 1, N, cs, ⟨kd, rl, lv, ng, a, b, kids, lk, f, h1, h2, h3, h4⟩, e + 1, he => by
    subst h1
    simp only [mpolys]
    rw [flatMap_congr' fun i x hx => mpolys_stable (h3.el.2 i x hx) (by omega)]

theorem mpolys_cv : ∀ {d N : Nat} {cs : List AV}, MN d N cs → ∀ c ∈ mpolys d cs, CV 4 L0 N0 c
  | 0, _, _, h, _, _ => h.elim
  | d + 1, N, cs, ⟨kd, rl, lv, ng, a, b, kids, lk, f, h1, h2, h3, h4⟩, c, hc => by
    subst h1
    simp only [mpolys] at hc
    split at hc
    · simp at hc; subst hc; exact h2
    · simp only [List.mem_flatMap] at hc
      obtain ⟨x, hx, hc⟩ := hc
      obtain ⟨i, hi⟩ := List.mem_iff_getElem?.1 hx
      exact mpolys_cv (h3.el.2 i x hi) c hc

theorem rpolys_len : ∀ {d N : Nat} {cs : List AV}, MV d N cs → (rpolys d cs).length ≤ N
  | 0, _, _, h => h.elim
  | d + 1, N, cs, ⟨kd, rl, lv, ng, a, b, kids, lk, f, h1, h2, h3, h4⟩ => by
    subst h1
    simp only [rpolys]
    split
    · simp; omega
    · split
      · have := flatMap_len (g := rpolys d) (f := f) (l := elems 7 kids) fun i x hx => rpolys_len (h3.el.2 i x hx)
        rw [h3.el.1] at this
        omega
      · simp

theorem rpolys_stable : ∀ {d N : Nat} {cs : List AV}, MV d N cs → ∀ {e : Nat}, d ≤ e → rpolys e cs = rpolys d cs
  | 0, _, _, h, _, _ => h.elim
  | d + 1, N, cs, ⟨kd, rl, lv, ng, a, b, kids, lk, f, h1, h2, h3, h4⟩, 0, he => by omega
  | d + 1, N, cs, ⟨kd, rl, lv, ng, a, b, kids, lk, f, h1, h2, h3, h4⟩, e + 1, he => by
    subst h1
    simp only [rpolys]
    rw [flatMap_congr' fun i x hx => rpolys_stable (h3.el.2 i x hx) (by omega)]

theorem rpolys_cv : ∀ {d N : Nat} {cs : List AV}, MV d N cs → ∀ c ∈ rpolys d cs, CV 4 L0 N0 c
  | 0, _, _, h, _, _ => h.elim
  | d + 1, N, cs, ⟨kd, rl, lv, ng, a, b, kids, lk, f, h1, h2, h3, h4⟩, c, hc => by
    subst h1
    simp only [rpolys] at hc
    split at hc
    · simp at hc; subst hc; exact (norm0 h2).2
    · split at hc
      · simp only [List.mem_flatMap] at hc
        obtain ⟨x, hx, hc⟩ := hc
        obtain ⟨i, hi⟩ := List.mem_iff_getElem?.1 hx
        exact rpolys_cv (h3.el.2 i x hi) c hc
      · simp at hc

theorem zero_rv : RV 6 12 4 [.int .i64 0, .bool false, .nilsl, .nilsl] := ⟨0, false, .nilsl, .nilsl, rfl, .inl rfl, .inl rfl⟩

/-- What Normal makes is a normal matrix, with the same polynomials. -/
theorem NR.mn : ∀ {d N : Nat} {m cs : List AV}, MV d N m → NR m cs → MN d N cs ∧ mpolys d cs = rpolys d m
  | 0, _, _, _, h, _ => h.elim
  | d + 1, N, m, cs, ⟨kd, rl, lv, ng, a, b, kids, lk, f, h1, h2, h3, h4⟩, hr => by
    have hz : ∀ x y : Int, MN (d + 1) N [.int .i64 x, .int .i64 y, .int .i64 0, .bool false, .nilsl, .nilsl, .nilsl] := fun x y =>
      ⟨x, y, 0, false, .nilsl, .nilsl, .nilsl, 0, fun _ => 0, rfl, zero_cv _ _ _, .inl ⟨rfl, rfl⟩, by simp only [sumN]; omega⟩
    subst h1
    cases hr with
    | tru => exact ⟨hz _ _, by simp [mpolys, rpolys, elems]⟩
    | atom he =>
      have hn := (norm0 h2).2
      rw [he] at hn
      obtain ⟨_, _, _, _, e, _, _⟩ := hn.pv
      simp at e
      obtain ⟨rfl, rfl, rfl, rfl⟩ := e
      exact ⟨⟨_, _, _, _, _, _, .nilsl, 0, fun _ => 0, rfl, hn, .inl ⟨rfl, rfl⟩, by simp only [sumN]; omega⟩, by simp [mpolys, rpolys, he]⟩
    | node hk hl hh hf hls =>
      rename_i kids'
      rw [h3.el.1] at hl
      rw [hl] at hls
      have hget : ∀ (i : Nat) y, i < lk → (elems 7 kids')[i]? = some y → ∃ x, (elems 7 kids)[i]? = some x ∧ MN d (f i) y ∧ mpolys d y = rpolys d x := by
        intro i y hi hy
        obtain ⟨x, hx⟩ : ∃ x, (elems 7 kids)[i]? = some x := ⟨_, List.getElem?_eq_getElem (by rw [h3.el.1]; exact hi)⟩
        exact ⟨x, hx, NR.mn (h3.el.2 i x hx) (hh i x y hx hy)⟩
      have hk2 : kd ≠ 2 := by omega
      refine ⟨⟨kd, 0, 0, false, .nilsl, .nilsl, kids', lk, f, rfl, zero_cv _ _ _, hls.of_el fun i y hi hy => ?_, h4⟩, ?_⟩
      · obtain ⟨x, _, hm, _⟩ := hget i y hi hy
        exact hm
      · simp only [mpolys, rpolys, if_neg hk2, if_pos hk]
        have key : ∀ (l l' : List (List AV)), l.length = l'.length → (∀ (i : Nat) x y, l[i]? = some x → l'[i]? = some y → mpolys d y = rpolys d x) → l'.flatMap (mpolys d) = l.flatMap (rpolys d) := by
          intro l
          induction l with
          | nil => intro l' hl _; cases l' with | nil => rfl | cons y l' => simp at hl
          | cons x l ih =>
            intro l' hl h
            cases l' with
            | nil => simp at hl
            | cons y l' =>
              rw [List.flatMap_cons, List.flatMap_cons, h 0 x y rfl rfl, ih l' (by simpa using hl) fun i x y h1 h2 => h (i + 1) x y (by simpa using h1) (by simpa using h2)]
        refine key _ _ (by rw [h3.el.1, hl]) fun i x y hx hy => ?_
        have hi : i < lk := by
          have := (List.getElem?_eq_some_iff.1 hy).1
          omega
        obtain ⟨x', hx', _, hm⟩ := hget i y hi hy
        rw [hx] at hx'
        simp only [Option.some.injEq] at hx'
        rw [hm, hx']
    | other n1 n2 n3 n4 => exact ⟨hz _ _, by simp [mpolys, rpolys, elems, n2, n3, n4]⟩

theorem cv_allflat {l L n : Nat} {c : List AV} (h : CV l L n c) : c.all isFlat = true := List.all_eq_true.2 (pv_flat h.pv)

/-- Lists of polynomials. -/
theorem getPoly {l : List (List AV)} (hl : ∀ c ∈ l, CV 4 L0 N0 c) {r : AV} {len : Nat} (h : LS 4 (fun i c => l[i]? = some c) r len) {i : Nat} (hi : i < len) : ∃ p lv ng a b, indexAddrA Tryz.prog 27 r i = some p ∧ (∀ H, loadA Tryz.prog H 29 p = some (.agg [.int .i64 lv, .bool ng, a, b])) ∧ l[i]? = some [.int .i64 lv, .bool ng, a, b] ∧ CV 4 L0 N0 [.int .i64 lv, .bool ng, a, b] := by
  obtain ⟨p, cs, h1, h2, h3⟩ := h.get P27 size29 agg29 hi
  have hc := hl cs (List.mem_of_getElem? h3)
  obtain ⟨lv, ng, a, b, rfl, _⟩ := hc.pv
  exact ⟨p, lv, ng, a, b, h1, h2, h3, hc⟩

end Go.AX

/- AX, part 54: normal matrices: the walks. -/
set_option linter.unusedVariables false
set_option linter.unusedSimpArgs false
set_option maxRecDepth 4000
set_option maxHeartbeats 4000000
namespace Go.AX
open Go Go.RowKit Go.Proofs
attribute [local irreducible] WOps WD W

theorem bytes32 : bytesT Tryz.prog 32 = some 104 := by kernel_rfl
theorem bytes29' : bytesT Tryz.prog 29 = some 64 := by kernel_rfl

theorem RV.ls {d L n : Nat} {lv : Int} {ng : Bool} {a b : AV} (h : RV (d + 1) L n [.int .i64 lv, .bool ng, a, b]) : NV n a ∧ ∃ lb, lb ≤ L ∧ LS 4 (fun _ c => RV d L n c) b lb := by
  obtain ⟨_, _, _, _, e, h1, h2⟩ := h
  simp at e
  obtain ⟨rfl, rfl, rfl, rfl⟩ := e
  refine ⟨h1, ?_⟩
  rcases h2 with rfl | ⟨cells, len, cap, rfl, c1, c2, c3⟩
  · exact ⟨0, Nat.zero_le _, .inl ⟨rfl, rfl⟩⟩
  · exact ⟨len, c2, .inr ⟨cells, cap, rfl, c1, c3⟩⟩

theorem low_con : ∀ (d L n : Nat) (p : List AV) (deg : Int), RV d L n p → L ≤ 2 ^ 36 → -2 ^ 40 ≤ deg → deg ≤ 2 ^ 40 → Con 61 [.agg p, .int .i64 deg] (Sp1 61 [.agg p, .int .i64 deg]) := by
  intro d
  induction d with
  | zero => intro L n p deg h; exact h.elim
  | succ d ih =>
    intro L n p deg hp hL h0 h1
    obtain ⟨lv, ng, a, b, rfl, ha, f_b⟩ := hp.pv
    have f_a := nv_flat ha
    obtain ⟨_, lb, hlb, hls⟩ := hp.ls
    refine con_ret (Sp := Sp1) Tryz.func61 rfl ?_
    show W (ES Sp1) _ _ ⟨[.agg ([.int .i64 lv, .bool ng, a, b]), .int .i64 deg] ++ List.replicate 25 .undef, []⟩
    have hh1 := @Has.nil ([] : Heap)
    refine W.seq (W.region ?_)
    refine o_bx hh1 (.agg ([.int .i64 lv, .bool ng, a, b])) [.int .i64 lv, .bool ng, a, b] rfl (oc1 rfl (oc1 rfl (oc1 (one_of_flat f_a) (oc1 (one_of_flat f_b) oc0)))) rfl (by kernel_rfl) fun q2 H2 hh3 => ?_
    refine WOps.run dr1 [(4, .bool false)] (by kernel_rfl) ?_
    refine WOps.e0 (Th_n (W.seq (W.seq (W.region ?_))))
    refine WOps.run dr1 [(6, .ptr q2 3)] (by kernel_rfl) ?_
    refine o_ld hh3 0 3 (b) rfl rfl (by kernel_rfl) ?_
    refine o_vb (.int .i64 (lb : Nat)) (hls.len P27 _) (by kernel_rfl) ?_
    refine WOps.run dr1 [(9, .int .i64 deg)] (by kernel_rfl) ?_
    refine o_v2 (.int .i64 (IntKind.i64.wrap ((deg : Int) + (1 : Int)))) (.int .i64 (deg + 1)) (congrArg (AV.int .i64) (by rw [wrapN] <;> omega)) (by kernel_rfl) ?_
    by_cases h2 : (lb : Int) > deg + 1
    · refine o_v2 (.bool (decide (((lb : Nat) : Int) > (deg + 1 : Int)))) (.bool true) (congrArg AV.bool (decide_eq_true (h2))) (by kernel_rfl) ?_
      refine WOps.e0 (Th_n (W.condT (by kernel_rfl) (W.seq (W.region ?_))))
      refine WOps.run dr1 [(4, .bool false)] (by kernel_rfl) ?_
      refine WOps.e0 (Th_n (W.ret (Th_r ?_)))
      exact ret_t (r' := .bool false) (⟨false, rfl⟩) (.inr rfl) rfl (by kernel_rfl) (vflat rfl)
    · refine o_v2 (.bool (decide (((lb : Nat) : Int) > (deg + 1 : Int)))) (.bool false) (congrArg AV.bool (decide_eq_false (h2))) (by kernel_rfl) ?_
      refine WOps.e0 (Th_n (W.condF (by kernel_rfl) (W.skip (Th_n (W.seq (W.seq (W.region ?_)))))))
      refine WOps.run dr1 [(12, .ptr q2 3)] (by kernel_rfl) ?_
      refine o_ld hh3 0 3 (b) rfl rfl (by kernel_rfl) ?_
      refine o_vb (.int .i64 (lb : Nat)) (hls.len P27 _) (by kernel_rfl) ?_
      refine WOps.run dr1 [(15, .int .i64 0)] (by kernel_rfl) ?_
      refine WOps.e0 (Th_n (W.blk ?_))
      refine W.lp (fun T u T1 H1 => ∃ (t4 t5 t16 t17 t18 t19 t20 t21 t22 t23 t24 t25 t26 : AV) (i : Nat), ups T [(4, t4), (5, t5), (15, .int .i64 (i : Nat)), (16, t16), (17, t17), (18, t18), (19, t19), (20, t20), (21, t21), (22, t22), (23, t23), (24, t24), (25, t25), (26, t26)] = T1 ∧ Has H1 [(q2, .cells ([.int .i64 lv, .bool ng, a, b]))] ∧ i + u = lb) (lb) ⟨.bool false, .undef, .undef, .undef, .undef, .undef, .undef, .undef, .undef, .undef, .undef, .undef, .undef, 0, by kernel_rfl, hh3.pick [0] (by decide), Nat.zero_add _⟩ ?_
      rintro u _ H4 ⟨t4, t5, t16, t17, t18, t19, t20, t21, t22, t23, t24, t25, t26, i, rfl, hh5, hi⟩
      refine W.seq (W.region ?_)
      by_cases hlt : i < lb
      · refine o_v2 (.bool (decide (((i : Nat) : Int) < ((lb : Nat) : Int)))) (.bool true) (congrArg AV.bool (decide_eq_true (by omega))) (by kernel_rfl) ?_
        refine WOps.e0 (Th_n (W.seq (W.condT (by kernel_rfl) (W.skip (Th_n (W.seq (W.blk (W.seq (W.region ?_)))))))))
        refine WOps.run dr2 [(17, .int .i64 (i : Nat)), (5, .int .i64 (i : Nat))] (by kernel_rfl) ?_
        refine WOps.e0 (Th_n (W.seq (W.region ?_)))
        refine WOps.run dr1 [(18, .ptr q2 3)] (by kernel_rfl) ?_
        refine o_ld hh5 0 3 (b) rfl rfl (by kernel_rfl) ?_
        refine WOps.run dr1 [(20, .int .i64 (i : Nat))] (by kernel_rfl) ?_
        obtain ⟨pp, cs, hpp, hld, hcs, hel⟩ := hls.gete P27 size29 agg29 hlt
        obtain ⟨lv2, ng2, a2, e2, rfl, ha2, f_e2⟩ := hcs.pv
        have f_a2 := nv_flat ha2
        refine o_vk (pp) (hpp) (by kernel_rfl) ?_
        refine o_vk (.agg ([.int .i64 lv2, .bool ng2, a2, e2])) ((hld) H4) (by kernel_rfl) ?_
        refine WOps.run dr1 [(23, .int .i64 deg)] (by kernel_rfl) ?_
        refine o_call (ys := [.agg ([.int .i64 lv2, .bool ng2, a2, e2]), .int .i64 deg]) (vcons (vagg (vflats (fc rfl (fc rfl (fc f_a2 (fc f_e2 fn0)))))) (vcons (vflat rfl) vnil)) (ih L n _ deg hcs hL h0 h1) rfl (by kernel_rfl) fun z Oz hz => ?_
        obtain ⟨c, rfl⟩ := hz
        cases c with
        | false =>
          refine WOps.run dr1 [(25, .bool true)] (by kernel_rfl) ?_
          refine WOps.e0 (Th_n (W.condT (by kernel_rfl) (W.seq (W.region ?_))))
          refine WOps.run dr1 [(4, .bool false)] (by kernel_rfl) ?_
          refine WOps.e0 (Th_n (W.ret (Bk_r (Th_r (Th_r (Bk_r (Th_r ?_)))))))
          exact ret_t (r' := .bool false) (⟨false, rfl⟩) (.inr rfl) rfl (by kernel_rfl) (vflat rfl)
        | true =>
          refine WOps.run dr1 [(25, .bool false)] (by kernel_rfl) ?_
          refine WOps.e0 (Th_n (W.condF (by kernel_rfl) (W.skip (Bk_n (Th_n (W.region ?_))))))
          refine o_v2 (.int .i64 (IntKind.i64.wrap (((i : Nat) : Int) + (1 : Int)))) (.int .i64 (((i + 1 : Nat) : Int))) (congrArg (AV.int .i64) (by rw [wrapN] <;> omega)) (by kernel_rfl) ?_
          refine WOps.run dr1 [(15, .int .i64 ((i + 1 : Nat) : Int))] (by kernel_rfl) ?_
          refine WOps.e0 (Th_n ?_)
          exact ⟨u - 1, by omega, t4, .int .i64 (i : Nat), .bool true, .int .i64 (i : Nat), .ptr q2 3, b, .int .i64 (i : Nat), pp, .agg ([.int .i64 lv2, .bool ng2, a2, e2]), .int .i64 deg, .bool true, .bool false, .int .i64 ((i + 1 : Nat) : Int), i + 1, by kernel_rfl, hh5.pick [0] (by decide), by omega⟩
      · refine o_v2 (.bool (decide (((i : Nat) : Int) < ((lb : Nat) : Int)))) (.bool false) (congrArg AV.bool (decide_eq_false (by omega))) (by kernel_rfl) ?_
        refine WOps.e0 (Th_n (W.seq (W.condF (by kernel_rfl) (W.exit (Th_e (Th_e (Bk_s (Th_n (W.seq (W.region ?_))))))))))
        refine WOps.run dr1 [(4, .bool true)] (by kernel_rfl) ?_
        refine WOps.e0 (Th_n (W.ret ?_))
        exact ret_t (r' := .bool true) (⟨true, rfl⟩) (.inr rfl) rfl (by kernel_rfl) (vflat rfl)

theorem Small_con (d L n : Nat) (p : List AV) (deg : Int) (hp : RV d L n p) (hL : L ≤ 2 ^ 20) (hn : n ≤ 2 ^ 30) (h0 : -2 ^ 40 ≤ deg) (h1 : deg ≤ 2 ^ 40) : Con 29 [.agg p, .int .i64 deg] (Sp1 29 [.agg p, .int .i64 deg]) := by
  have hp' := hp
  obtain ⟨lv, ng, a, b, rfl, ha, f_b⟩ := hp.pv
  have f_a := nv_flat ha
  refine con_ret (Sp := Sp1) Tryz.func29 rfl ?_
  show W (ES Sp1) _ _ ⟨[.agg ([.int .i64 lv, .bool ng, a, b]), .int .i64 deg] ++ List.replicate 11 .undef, []⟩
  have hh6 := @Has.nil ([] : Heap)
  refine W.seq (W.region ?_)
  refine o_bx hh6 (.agg ([.int .i64 lv, .bool ng, a, b])) [.int .i64 lv, .bool ng, a, b] rfl (oc1 rfl (oc1 rfl (oc1 (one_of_flat f_a) (oc1 (one_of_flat f_b) oc0)))) rfl (by kernel_rfl) fun q2 H7 hh8 => ?_
  refine WOps.run dr1 [(4, .bool false)] (by kernel_rfl) ?_
  refine WOps.e0 (Th_n (W.seq (W.region ?_)))
  refine o_ld hh8 0 0 (.agg ([.int .i64 lv, .bool ng, a, b])) rfl rfl (by kernel_rfl) ?_
  refine o_call (ys := [.agg ([.int .i64 lv, .bool ng, a, b]), .int .i64 30, .int .i64 2]) (vcons (vagg (vflats (fc rfl (fc rfl (fc f_a (fc f_b fn0)))))) (vcons (vflat rfl) (vcons (vflat rfl) vnil))) (FewPoly_con _ 30 2 (hp'.tp (by omega) (by omega) 6) (by omega) (by omega)) rfl (by kernel_rfl) fun z Oz hz => ?_
  obtain ⟨c, rfl, hz⟩ := hz
  refine WOps.run dr1 [(7, .bool c)] (by kernel_rfl) ?_
  cases c with
  | false =>
    refine WOps.run dr6 [(8, .undef), (9, .undef), (10, .undef), (11, .undef), (12, .bool false), (4, .bool false)] (by kernel_rfl) ?_
    refine WOps.e0 (Th_n (W.ret ?_))
    exact ret_t (r' := .bool false) (⟨false, rfl⟩) (.inr rfl) rfl (by kernel_rfl) (vflat rfl)
  | true =>
    refine o_ld hh8 0 0 (.agg ([.int .i64 lv, .bool ng, a, b])) rfl rfl (by kernel_rfl) ?_
    have hrv := hz rfl
    refine o_call (ys := [.agg ([.int .i64 lv, .bool ng, a, b])]) (vcons (vagg (vflats (fc rfl (fc rfl (fc f_a (fc f_b fn0)))))) vnil) (pNormal_spec hrv (by omega) (by decide) (by decide)) rfl (by kernel_rfl) fun y Oy hy => ?_
    obtain ⟨yc, rfl, hyv⟩ := hy 6 12 2 hrv
    obtain ⟨lv2, ng2, a2, e2, rfl, ha2, f_e2⟩ := hyv.pv
    have f_a2 := nv_flat ha2
    refine WOps.run dr1 [(10, .int .i64 deg)] (by kernel_rfl) ?_
    refine o_call (ys := [.agg ([.int .i64 lv2, .bool ng2, a2, e2]), .int .i64 deg]) (vcons (vagg (vflats (fc rfl (fc rfl (fc f_a2 (fc f_e2 fn0)))))) (vcons (vflat rfl) vnil)) (low_con 5 _ _ _ deg hyv.rv (by decide) h0 h1) rfl (by kernel_rfl) fun w Ow hw => ?_
    obtain ⟨c2, rfl⟩ := hw
    refine WOps.run dr2 [(12, .bool c2), (4, .bool c2)] (by kernel_rfl) ?_
    refine WOps.e0 (Th_n (W.ret ?_))
    exact ret_t (r' := .bool c2) (⟨c2, rfl⟩) (.inr rfl) rfl (by kernel_rfl) (vflat rfl)

theorem sumN_mem (f : Nat → Nat) : ∀ {n i : Nat}, i < n → f i ≤ sumN f n
  | 0, _, h => by omega
  | n + 1, i, h => by
    simp only [sumN]
    by_cases hi : i < n
    · have := sumN_mem f hi; omega
    · have : i = n := by omega
      subst this; omega

theorem O40 (x : List AV) : (ES Sp1).O 40 x = (ES Spec).O 40 x := rfl

theorem MV.shape {d N : Nat} {m : List AV} (h : MV d N m) : ∃ kd rl lv ng a b kids, m = [.int .i64 kd, .int .i64 rl, .int .i64 lv, .bool ng, a, b, kids] ∧ isFlat a = true ∧ isFlat b = true ∧ isFlat kids = true := by
  cases d with
  | zero => exact h.elim
  | succ d =>
    obtain ⟨kd, rl, lv, ng, a, b, kids, lk, f, h1, h2, h3, h4⟩ := h
    obtain ⟨_, _, _, _, e, ha, hb⟩ := h2.pv
    simp at e
    obtain ⟨_, _, rfl, rfl⟩ := e
    exact ⟨kd, rl, lv, ng, a, b, kids, h1, nv_flat ha, hb, h3.flat⟩

theorem MN.shape {d N : Nat} {m : List AV} (h : MN d N m) : ∃ kd rl lv ng a b kids, m = [.int .i64 kd, .int .i64 rl, .int .i64 lv, .bool ng, a, b, kids] ∧ isFlat a = true ∧ isFlat b = true ∧ isFlat kids = true := by
  cases d with
  | zero => exact h.elim
  | succ d =>
    obtain ⟨kd, rl, lv, ng, a, b, kids, lk, f, h1, h2, h3, h4⟩ := h
    exact ⟨kd, rl, lv, ng, a, b, kids, h1, h2.fl.1, h2.fl.2.1, h3.flat⟩

theorem mNormal_con : ∀ (d N : Nat) (m : List AV), MV d N m → N ≤ 2 ^ 20 → Con 15 [.agg m] (Sp1 15 [.agg m]) := by
  intro d
  induction d with
  | zero => intro N m h; exact h.elim
  | succ d ih =>
    intro N m hm hN
    have hm' := hm
    obtain ⟨kd, rl, lv, ng, a, b, kids, lk, f, rfl, hpo, hk, hsum⟩ := hm
    obtain ⟨_, _, _, _, e, f_a, f_b⟩ := (hpo.tp (by omega) (by omega) 6).shape
    simp at e
    obtain ⟨_, _, rfl, rfl⟩ := e
    have f_kids := hk.flat
    have hlkN : lk ≤ sumN f lk := sumN_ge fun i hi => (hk.el.2 i _ (List.getElem?_eq_getElem (by rw [hk.el.1]; exact hi))).pos
    refine con_ret (Sp := Sp1) Tryz.func15 rfl ?_
    show W (ES Sp1) _ _ ⟨[.agg ([.int .i64 kd, .int .i64 rl, .int .i64 lv, .bool ng, a, b, kids])] ++ List.replicate 51 .undef, []⟩
    have hh9 := @Has.nil ([] : Heap)
    refine W.seq (W.region ?_)
    refine o_bx hh9 (.agg ([.int .i64 kd, .int .i64 rl, .int .i64 lv, .bool ng, a, b, kids])) [.int .i64 kd, .int .i64 rl, .int .i64 lv, .bool ng, a, b, kids] rfl (oc1 rfl (oc1 rfl (oc1 rfl (oc1 rfl (oc1 (one_of_flat f_a) (oc1 (one_of_flat f_b) (oc1 (one_of_flat f_kids) oc0))))))) rfl (by kernel_rfl) fun q1 H10 hh11 => ?_
    refine o_al hh11 (.agg ([.int .i64 0, .int .i64 0, .int .i64 0, .bool false, .nilsl, .nilsl, .nilsl])) rfl (by kernel_rfl) fun q2 H12 hh13 => ?_
    refine WOps.e0 (Th_n (W.seq (W.seq (W.region ?_))))
    refine WOps.run dr1 [(6, .ptr q1 0)] (by kernel_rfl) ?_
    refine o_ld hh13 1 0 (.int .i64 kd) rfl rfl (by kernel_rfl) ?_
    refine WOps.e0 (Th_n (W.blk (W.seq (W.region ?_))))
    by_cases k1 : kd = 1
    · subst k1
      refine WOps.run dr2 [(9, .bool true), (8, .bool true)] (by kernel_rfl) ?_
      refine WOps.e0 (Th_n (W.condT (by kernel_rfl) (W.seq (W.region ?_))))
      refine WOps.run dr1 [(10, .agg ([.int .i64 1, .int .i64 0, .int .i64 0, .bool false, .nilsl, .nilsl, .nilsl]))] (by kernel_rfl) ?_
      refine o_st hh13 0 0 (.agg ([.int .i64 1, .int .i64 0, .int .i64 0, .bool false, .nilsl, .nilsl, .nilsl])) [.int .i64 1, .int .i64 0, .int .i64 0, .bool false, .nilsl, .nilsl, .nilsl] rfl rfl rfl (by kernel_rfl) fun H14 hh15 => ?_
      refine WOps.e0 (Th_n (W.ret (Bk_r (Th_r ?_))))
      exact ret_c (r' := .agg ([.int .i64 1, .int .i64 0, .int .i64 0, .bool false, .nilsl, .nilsl, .nilsl])) (id := q2) (off := 0) (r := .agg ([.int .i64 1, .int .i64 0, .int .i64 0, .bool false, .nilsl, .nilsl, .nilsl])) (⟨_, rfl, .tru⟩) hh15 0 rfl (.inr rfl) rfl (by kernel_rfl) (by kernel_rfl) (vagg (vflats rfl))
    · refine o_v2 (.bool (((kd : Int) == (1 : Int)))) (.bool false) (congrArg AV.bool (beq_eq_false_iff_ne.2 (k1))) (by kernel_rfl) ?_
      refine WOps.run dr1 [(8, .bool false)] (by kernel_rfl) ?_
      refine WOps.e0 (Th_n (W.condF (by kernel_rfl) (W.seq (W.region ?_))))
      by_cases k2 : kd = 2
      · subst k2
        refine WOps.run dr2 [(12, .bool true), (11, .bool true)] (by kernel_rfl) ?_
        refine WOps.e0 (Th_n (W.condT (by kernel_rfl) (W.seq (W.region ?_))))
        refine WOps.run dr1 [(13, .ptr q1 1)] (by kernel_rfl) ?_
        refine o_ld hh13 1 1 (.int .i64 rl) rfl rfl (by kernel_rfl) ?_
        refine WOps.run dr1 [(3, .int .i64 rl)] (by kernel_rfl) ?_
        refine WOps.e0 (Th_n (W.seq (W.seq (W.region ?_))))
        refine WOps.run dr1 [(15, .int .i64 rl)] (by kernel_rfl) ?_
        have key : ∀ (rl' : Int) z, (ES Sp1).O 40 [.agg [.int .i64 lv, .bool ng, a, b]] = some z → Sp1 40 [.agg [.int .i64 lv, .bool ng, a, b]] z → ∃ lv2 ng2 a2 e2, z = .agg [.int .i64 lv2, .bool ng2, a2, e2] ∧ isFlat a2 = true ∧ isFlat e2 = true ∧ NR [.int .i64 2, .int .i64 rl, .int .i64 lv, .bool ng, a, b, kids] [.int .i64 2, .int .i64 rl', .int .i64 lv2, .bool ng2, a2, e2, .nilsl] := by
          intro rl' z Oz hz
          obtain ⟨zc, rfl, hzv⟩ := hz 6 12 4 hpo
          obtain ⟨lv2, ng2, a2, e2, rfl, ha2, f_e2⟩ := hzv.pv
          rw [O40, (norm0 hpo).1] at Oz
          simp only [Option.some.injEq, AV.agg.injEq] at Oz
          exact ⟨lv2, ng2, a2, e2, rfl, nv_flat ha2, f_e2, .atom Oz⟩
        by_cases r1 : rl < 1
        · refine o_v2 (.bool (decide ((rl : Int) < (1 : Int)))) (.bool true) (congrArg AV.bool (decide_eq_true (r1))) (by kernel_rfl) ?_
          refine WOps.run dr4 [(17, .bool true), (18, .undef), (19, .undef), (20, .bool true)] (by kernel_rfl) ?_
          refine WOps.e0 (Th_n (W.condT (by kernel_rfl) (W.region ?_)))
          refine WOps.run dr1 [(3, .int .i64 3)] (by kernel_rfl) ?_
          refine WOps.e0 (Th_n (W.seq (W.region ?_)))
          refine WOps.run dr2 [(21, .int .i64 3), (22, .ptr q1 2)] (by kernel_rfl) ?_
          refine o_ld hh13 1 2 (.agg ([.int .i64 lv, .bool ng, a, b])) rfl rfl (by kernel_rfl) ?_
          refine o_call (ys := [.agg ([.int .i64 lv, .bool ng, a, b])]) (vcons (vagg (vflats (fc rfl (fc rfl (fc f_a (fc f_b fn0)))))) vnil) (pNormal_spec hpo (by omega) (by decide) (by decide)) rfl (by kernel_rfl) fun z Oz hz => ?_
          obtain ⟨lv2, ng2, a2, e2, rfl, f_a2, f_e2, hnr⟩ := key 3 z Oz hz
          refine WOps.run dr1 [(25, .agg ([.int .i64 2, .int .i64 3, .int .i64 lv2, .bool ng2, a2, e2, .nilsl]))] (by kernel_rfl) ?_
          refine o_st hh13 0 0 (.agg ([.int .i64 2, .int .i64 3, .int .i64 lv2, .bool ng2, a2, e2, .nilsl])) [.int .i64 2, .int .i64 3, .int .i64 lv2, .bool ng2, a2, e2, .nilsl] rfl rfl (oc1 rfl (oc1 rfl (oc1 rfl (oc1 rfl (oc1 (one_of_flat f_a2) (oc1 (one_of_flat f_e2) (oc1 rfl oc0))))))) (by kernel_rfl) fun H16 hh17 => ?_
          refine WOps.e0 (Th_n (W.ret (Bk_r (Th_r ?_))))
          exact ret_c (r' := .agg ([.int .i64 2, .int .i64 3, .int .i64 lv2, .bool ng2, a2, e2, .nilsl])) (id := q2) (off := 0) (r := .agg ([.int .i64 2, .int .i64 3, .int .i64 lv2, .bool ng2, a2, e2, .nilsl])) (⟨_, rfl, hnr⟩) hh17 0 rfl (.inr rfl) rfl (by kernel_rfl) (by kernel_rfl) (vagg (vflats (fc rfl (fc rfl (fc rfl (fc rfl (fc f_a2 (fc f_e2 (fc rfl fn0)))))))))
        · refine o_v2 (.bool (decide ((rl : Int) < (1 : Int)))) (.bool false) (congrArg AV.bool (decide_eq_false (r1))) (by kernel_rfl) ?_
          refine WOps.run dr2 [(17, .bool false), (18, .int .i64 rl)] (by kernel_rfl) ?_
          by_cases r2 : rl > 6
          · refine o_v2 (.bool (decide ((rl : Int) > (6 : Int)))) (.bool true) (congrArg AV.bool (decide_eq_true (r2))) (by kernel_rfl) ?_
            refine WOps.run dr1 [(20, .bool true)] (by kernel_rfl) ?_
            refine WOps.e0 (Th_n (W.condT (by kernel_rfl) (W.region ?_)))
            refine WOps.run dr1 [(3, .int .i64 3)] (by kernel_rfl) ?_
            refine WOps.e0 (Th_n (W.seq (W.region ?_)))
            refine WOps.run dr2 [(21, .int .i64 3), (22, .ptr q1 2)] (by kernel_rfl) ?_
            refine o_ld hh13 1 2 (.agg ([.int .i64 lv, .bool ng, a, b])) rfl rfl (by kernel_rfl) ?_
            refine o_call (ys := [.agg ([.int .i64 lv, .bool ng, a, b])]) (vcons (vagg (vflats (fc rfl (fc rfl (fc f_a (fc f_b fn0)))))) vnil) (pNormal_spec hpo (by omega) (by decide) (by decide)) rfl (by kernel_rfl) fun z Oz hz => ?_
            obtain ⟨lv2, ng2, a2, e2, rfl, f_a2, f_e2, hnr⟩ := key 3 z Oz hz
            refine WOps.run dr1 [(25, .agg ([.int .i64 2, .int .i64 3, .int .i64 lv2, .bool ng2, a2, e2, .nilsl]))] (by kernel_rfl) ?_
            refine o_st hh13 0 0 (.agg ([.int .i64 2, .int .i64 3, .int .i64 lv2, .bool ng2, a2, e2, .nilsl])) [.int .i64 2, .int .i64 3, .int .i64 lv2, .bool ng2, a2, e2, .nilsl] rfl rfl (oc1 rfl (oc1 rfl (oc1 rfl (oc1 rfl (oc1 (one_of_flat f_a2) (oc1 (one_of_flat f_e2) (oc1 rfl oc0))))))) (by kernel_rfl) fun H18 hh19 => ?_
            refine WOps.e0 (Th_n (W.ret (Bk_r (Th_r ?_))))
            exact ret_c (r' := .agg ([.int .i64 2, .int .i64 3, .int .i64 lv2, .bool ng2, a2, e2, .nilsl])) (id := q2) (off := 0) (r := .agg ([.int .i64 2, .int .i64 3, .int .i64 lv2, .bool ng2, a2, e2, .nilsl])) (⟨_, rfl, hnr⟩) hh19 0 rfl (.inr rfl) rfl (by kernel_rfl) (by kernel_rfl) (vagg (vflats (fc rfl (fc rfl (fc rfl (fc rfl (fc f_a2 (fc f_e2 (fc rfl fn0)))))))))
          · refine o_v2 (.bool (decide ((rl : Int) > (6 : Int)))) (.bool false) (congrArg AV.bool (decide_eq_false (r2))) (by kernel_rfl) ?_
            refine WOps.run dr1 [(20, .bool false)] (by kernel_rfl) ?_
            refine WOps.e0 (Th_n (W.condF (by kernel_rfl) (W.skip (Th_n (W.seq (W.region ?_))))))
            refine WOps.run dr2 [(21, .int .i64 rl), (22, .ptr q1 2)] (by kernel_rfl) ?_
            refine o_ld hh13 1 2 (.agg ([.int .i64 lv, .bool ng, a, b])) rfl rfl (by kernel_rfl) ?_
            refine o_call (ys := [.agg ([.int .i64 lv, .bool ng, a, b])]) (vcons (vagg (vflats (fc rfl (fc rfl (fc f_a (fc f_b fn0)))))) vnil) (pNormal_spec hpo (by omega) (by decide) (by decide)) rfl (by kernel_rfl) fun z Oz hz => ?_
            obtain ⟨lv2, ng2, a2, e2, rfl, f_a2, f_e2, hnr⟩ := key rl z Oz hz
            refine WOps.run dr1 [(25, .agg ([.int .i64 2, .int .i64 rl, .int .i64 lv2, .bool ng2, a2, e2, .nilsl]))] (by kernel_rfl) ?_
            refine o_st hh13 0 0 (.agg ([.int .i64 2, .int .i64 rl, .int .i64 lv2, .bool ng2, a2, e2, .nilsl])) [.int .i64 2, .int .i64 rl, .int .i64 lv2, .bool ng2, a2, e2, .nilsl] rfl rfl (oc1 rfl (oc1 rfl (oc1 rfl (oc1 rfl (oc1 (one_of_flat f_a2) (oc1 (one_of_flat f_e2) (oc1 rfl oc0))))))) (by kernel_rfl) fun H20 hh21 => ?_
            refine WOps.e0 (Th_n (W.ret (Bk_r (Th_r ?_))))
            exact ret_c (r' := .agg ([.int .i64 2, .int .i64 rl, .int .i64 lv2, .bool ng2, a2, e2, .nilsl])) (id := q2) (off := 0) (r := .agg ([.int .i64 2, .int .i64 rl, .int .i64 lv2, .bool ng2, a2, e2, .nilsl])) (⟨_, rfl, hnr⟩) hh21 0 rfl (.inr rfl) rfl (by kernel_rfl) (by kernel_rfl) (vagg (vflats (fc rfl (fc rfl (fc rfl (fc rfl (fc f_a2 (fc f_e2 (fc rfl fn0)))))))))
      · refine o_v2 (.bool (((kd : Int) == (2 : Int)))) (.bool false) (congrArg AV.bool (beq_eq_false_iff_ne.2 (k2))) (by kernel_rfl) ?_
        refine WOps.run dr1 [(11, .bool false)] (by kernel_rfl) ?_
        refine WOps.e0 (Th_n (W.condF (by kernel_rfl) (W.seq (W.seq (W.region ?_)))))
        by_cases k3 : kd = 3
        · subst k3
          refine WOps.run dr2 [(27, .bool true), (26, .bool true)] (by kernel_rfl) ?_
          refine WOps.e0 (Th_n (W.condT (by kernel_rfl) (W.skip (Th_n (W.condT (by kernel_rfl) (W.seq (W.region ?_)))))))
          refine WOps.run dr1 [(29, .ptr q1 0)] (by kernel_rfl) ?_
          refine o_ld hh13 1 0 (.int .i64 3) rfl rfl (by kernel_rfl) ?_
          refine WOps.run dr1 [(31, .agg ([.int .i64 3, .int .i64 0, .int .i64 0, .bool false, .nilsl, .nilsl, .nilsl]))] (by kernel_rfl) ?_
          refine o_al hh13 (.agg ([.int .i64 0, .int .i64 0, .int .i64 0, .bool false, .nilsl, .nilsl, .nilsl])) rfl (by kernel_rfl) fun q4 H22 hh23 => ?_
          refine o_st hh23 0 0 (.agg ([.int .i64 3, .int .i64 0, .int .i64 0, .bool false, .nilsl, .nilsl, .nilsl])) [.int .i64 3, .int .i64 0, .int .i64 0, .bool false, .nilsl, .nilsl, .nilsl] rfl rfl rfl (by kernel_rfl) fun H24 hh25 => ?_
          refine WOps.e0 (Th_n (W.seq (W.seq (W.region ?_))))
          refine WOps.run dr1 [(32, .ptr q1 6)] (by kernel_rfl) ?_
          refine o_ld hh25 2 6 (kids) rfl rfl (by kernel_rfl) ?_
          refine o_vb (.int .i64 (lk : Nat)) (hk.len P30 _) (by kernel_rfl) ?_
          refine WOps.run dr1 [(35, .int .i64 0)] (by kernel_rfl) ?_
          refine WOps.e0 (Th_n (W.blk ?_))
          refine W.lp (fun T u T1 H1 => ∃ (t5 t36 t37 t38 t39 t40 t41 t42 t43 t44 t45 t46 t47 t48 t49 : AV) (i : Nat) (K : AV) (ex : Kn), ups T [(5, t5), (35, .int .i64 (i : Nat)), (36, t36), (37, t37), (38, t38), (39, t39), (40, t40), (41, t41), (42, t42), (43, t43), (44, t44), (45, t45), (46, t46), (47, t47), (48, t48), (49, t49)] = T1 ∧ Has H1 ([(q1, .cells ([.int .i64 3, .int .i64 rl, .int .i64 lv, .bool ng, a, b, kids])), (q2, .cells ([.int .i64 0, .int .i64 0, .int .i64 0, .bool false, .nilsl, .nilsl, .nilsl])), (q4, .cells ([.int .i64 3, .int .i64 0, .int .i64 0, .bool false, .nilsl, .nilsl, K]))] ++ ex) ∧ i + u = lk ∧ Gth 7 (fun j c => ∀ x, (elems 7 kids)[j]? = some x → NR x c) K i ex) (lk) ⟨.undef, .undef, .undef, .undef, .undef, .undef, .undef, .undef, .undef, .undef, .undef, .undef, .undef, .undef, .undef, 0, .nilsl, [], by kernel_rfl, hh25.pick [2, 1, 0] (by decide), Nat.zero_add _, .inl ⟨rfl, rfl, rfl⟩⟩ ?_
          rintro u _ H26 ⟨t5, t36, t37, t38, t39, t40, t41, t42, t43, t44, t45, t46, t47, t48, t49, i, K, ex, rfl, hh27, hi, g⟩
          refine W.seq (W.region ?_)
          have o_K := g.one
          have c_K := g.cells
          by_cases hlt : i < lk
          · refine o_v2 (.bool (decide (((i : Nat) : Int) < ((lk : Nat) : Int)))) (.bool true) (congrArg AV.bool (decide_eq_true (by omega))) (by kernel_rfl) ?_
            refine WOps.e0 (Th_n (W.seq (W.condT (by kernel_rfl) (W.skip (Th_n (W.seq (W.blk (W.seq (W.region ?_)))))))))
            refine WOps.run dr2 [(37, .int .i64 (i : Nat)), (5, .int .i64 (i : Nat))] (by kernel_rfl) ?_
            refine WOps.e0 (Th_n ?_)
            obtain ⟨pp, cs, hpp, hld, hcs, hel⟩ := hk.gete P30 size32 agg32 hlt
            have hcs' := hcs
            obtain ⟨kd2, rl2, lv2, ng2, a2, e2, kids2, rfl, f_a2, f_e2, f_kids2⟩ := hcs.shape
            refine W.rl false hh27 [0, 2] (by decide) _ rfl (by kernel_rfl) ?_
            refine WD.run dr1 [(38, .ptr q4 6)] (by kernel_rfl) ?_
            refine d_ld hh27 [0, 2] (by decide) rfl 1 6 (K) rfl rfl (by kernel_rfl) ?_
            refine WD.run dr1 [(40, .ptr q1 6)] (by kernel_rfl) ?_
            refine d_ld hh27 [0, 2] (by decide) rfl 0 6 (kids) rfl rfl (by kernel_rfl) ?_
            refine WD.run dr1 [(42, .int .i64 (i : Nat))] (by kernel_rfl) ?_
            refine d_vk (pp) (hpp) (by kernel_rfl) ?_
            refine d_vl (.agg ([.int .i64 kd2, .int .i64 rl2, .int .i64 lv2, .bool ng2, a2, e2, kids2])) (hld) (by kernel_rfl) ?_
            have hfi := sumN_mem f hlt
            refine d_call (ys := [.agg ([.int .i64 kd2, .int .i64 rl2, .int .i64 lv2, .bool ng2, a2, e2, kids2])]) hh27 [0, 2] (by decide) rfl (vcons (vagg (vflats (fc rfl (fc rfl (fc rfl (fc rfl (fc f_a2 (fc f_e2 (fc f_kids2 fn0))))))))) vnil) (ih _ _ hcs' (by omega)) rfl (by kernel_rfl) fun z Oz hz => ?_
            obtain ⟨zc, rfl, hnr⟩ := hz
            obtain ⟨kd3, rl3, lv3, ng3, a3, e3, kids3, rfl, f_a3, f_e3, f_kids3⟩ := (hnr.mn hcs').1.shape
            refine d_bs hh27 [.int .i64 kd3, .int .i64 rl3, .int .i64 lv3, .bool ng3, a3, e3, kids3] (ps := [(0, .agg ([.int .i64 kd3, .int .i64 rl3, .int .i64 lv3, .bool ng3, a3, e3, kids3]))]) (qs := [(0, [.int .i64 kd3, .int .i64 rl3, .int .i64 lv3, .bool ng3, a3, e3, kids3])]) (.c rfl .n) (oc1 rfl (oc1 rfl (oc1 rfl (oc1 rfl (oc1 (one_of_flat f_a3) (oc1 (one_of_flat f_e3) (oc1 (one_of_flat f_kids3) oc0))))))) [1, 3] (by decide) (fun _ => rfl) rfl rfl rfl rfl (by kernel_rfl) fun q46 H28 hh29 => ?_
            obtain ⟨K2, ex2, e30, g2⟩ := gth_push [(q46, .cells ([.int .i64 kd3, .int .i64 rl3, .int .i64 lv3, .bool ng3, a3, e3, kids3])), (q1, .cells ([.int .i64 3, .int .i64 rl, .int .i64 lv, .bool ng, a, b, kids])), (q2, .cells ([.int .i64 0, .int .i64 0, .int .i64 0, .bool false, .nilsl, .nilsl, .nilsl])), (q4, .cells ([.int .i64 3, .int .i64 0, .int .i64 0, .bool false, .nilsl, .nilsl, K]))] 30 32 0 g hh29 P30 size32 bytes32 (by kernel_rfl) rfl rfl (fc rfl (fc rfl (fc rfl (fc rfl (fc f_a3 (fc f_e3 (fc f_kids3 fn0))))))) (fun x hx => by rw [hel] at hx; simp only [Option.some.injEq] at hx; rw [← hx]; exact hnr) (by unfold roomA; omega)
            refine d_gen K2 (L := ([(q46, .cells ([.int .i64 kd3, .int .i64 rl3, .int .i64 lv3, .bool ng3, a3, e3, kids3])), (q1, .cells ([.int .i64 3, .int .i64 rl, .int .i64 lv, .bool ng, a, b, kids])), (q2, .cells ([.int .i64 0, .int .i64 0, .int .i64 0, .bool false, .nilsl, .nilsl, .nilsl])), (q4, .cells ([.int .i64 3, .int .i64 0, .int .i64 0, .bool false, .nilsl, .nilsl, K]))] ++ ex2)) e30 [1, 3] (by decide) rfl (by kernel_rfl) fun H31 hh32 => ?_
            have o_K2 := g2.one
            have c_K2 := g2.cells
            refine WD.run dr1 [(48, .ptr q4 6)] (by kernel_rfl) ?_
            refine d_last .undef (m_st (P := Tryz.prog) (t := 30) hh32 3 6 (K2) [K2] c_K2 [.int .i64 3, .int .i64 0, .int .i64 0, .bool false, .nilsl, .nilsl, K2] rfl (oc1 o_K2 oc0) (by kernel_rfl)) (by kernel_rfl) fun H33 hh34 => ?_
            refine WD.e0 (Bk_n (Th_n (W.region ?_)))
            refine o_v2 (.int .i64 (IntKind.i64.wrap (((i : Nat) : Int) + (1 : Int)))) (.int .i64 (((i + 1 : Nat) : Int))) (congrArg (AV.int .i64) (by rw [wrapN] <;> omega)) (by kernel_rfl) ?_
            refine WOps.run dr1 [(35, .int .i64 ((i + 1 : Nat) : Int))] (by kernel_rfl) ?_
            refine WOps.e0 (Th_n ?_)
            exact ⟨u - 1, by omega, .int .i64 (i : Nat), .bool true, .int .i64 (i : Nat), .ptr q4 6, K, .ptr q1 6, kids, .int .i64 (i : Nat), pp, .agg ([.int .i64 kd2, .int .i64 rl2, .int .i64 lv2, .bool ng2, a2, e2, kids2]), .agg ([.int .i64 kd3, .int .i64 rl3, .int .i64 lv3, .bool ng3, a3, e3, kids3]), .sl q46 0 1 7 (some 1), K2, .ptr q4 6, .int .i64 ((i + 1 : Nat) : Int), i + 1, K2, ex2, by kernel_rfl, hh34.pickt [(q46, .cells ([.int .i64 kd3, .int .i64 rl3, .int .i64 lv3, .bool ng3, a3, e3, kids3])), (q1, .cells ([.int .i64 3, .int .i64 rl, .int .i64 lv, .bool ng, a, b, kids])), (q2, .cells ([.int .i64 0, .int .i64 0, .int .i64 0, .bool false, .nilsl, .nilsl, .nilsl])), (q4, .cells ([.int .i64 3, .int .i64 0, .int .i64 0, .bool false, .nilsl, .nilsl, K2]))] [1, 2, 3] (by decide) rfl, by omega, g2⟩
          · refine o_v2 (.bool (decide (((i : Nat) : Int) < ((lk : Nat) : Int)))) (.bool false) (congrArg AV.bool (decide_eq_false (by omega))) (by kernel_rfl) ?_
            refine WOps.e0 (Th_n (W.seq (W.condF (by kernel_rfl) (W.exit (Th_e (Th_e (Bk_s (Th_n (W.seq (W.region ?_))))))))))
            refine o_ld hh27 2 0 (.agg ([.int .i64 3, .int .i64 0, .int .i64 0, .bool false, .nilsl, .nilsl, K])) rfl rfl (by kernel_rfl) ?_
            refine o_st hh27 1 0 (.agg ([.int .i64 3, .int .i64 0, .int .i64 0, .bool false, .nilsl, .nilsl, K])) [.int .i64 3, .int .i64 0, .int .i64 0, .bool false, .nilsl, .nilsl, K] rfl rfl (oc1 rfl (oc1 rfl (oc1 rfl (oc1 rfl (oc1 rfl (oc1 rfl (oc1 o_K oc0))))))) (by kernel_rfl) fun H35 hh36 => ?_
            refine WOps.e0 (Th_n (W.ret (Bk_r (Th_r ?_))))
            obtain ⟨K9, w_K, v_K, l_K9, f_K9⟩ := g.view [(q1, .cells ([.int .i64 3, .int .i64 rl, .int .i64 lv, .bool ng, a, b, kids])), (q2, .cells ([.int .i64 3, .int .i64 0, .int .i64 0, .bool false, .nilsl, .nilsl, K])), (q4, .cells ([.int .i64 3, .int .i64 0, .int .i64 0, .bool false, .nilsl, .nilsl, K]))] hh36
            have hil : i = lk := by omega
            subst hil
            have hl9 := l_K9.el
            exact ret_c (r' := .agg ([.int .i64 3, .int .i64 0, .int .i64 0, .bool false, .nilsl, .nilsl, K9])) (id := q2) (off := 0) (r := .agg ([.int .i64 3, .int .i64 0, .int .i64 0, .bool false, .nilsl, .nilsl, K])) (⟨_, rfl, .node (.inl rfl) (by rw [hl9.1, hk.el.1]) (fun j x y hx hy => hl9.2 j y hy x hx) f_K9 (by rw [hl9.1]; exact l_K9.imp fun _ _ _ _ => trivial)⟩) hh36 1 rfl (.inr rfl) rfl (by kernel_rfl) (by kernel_rfl) (vagg (vcons (vflat rfl) (vcons (vflat rfl) (vcons (vflat rfl) (vcons (vflat rfl) (vcons (vflat rfl) (vcons (vflat rfl) (vcons (v_K _) vnil))))))))
        · refine o_v2 (.bool (((kd : Int) == (3 : Int)))) (.bool false) (congrArg AV.bool (beq_eq_false_iff_ne.2 (k3))) (by kernel_rfl) ?_
          refine WOps.run dr1 [(26, .bool false)] (by kernel_rfl) ?_
          refine WOps.e0 (Th_n (W.condF (by kernel_rfl) (W.region ?_)))
          by_cases k4 : kd = 4
          · subst k4
            refine WOps.run dr2 [(28, .bool true), (26, .bool true)] (by kernel_rfl) ?_
            refine WOps.e0 (Th_n (W.condT (by kernel_rfl) (W.seq (W.region ?_))))
            refine WOps.run dr1 [(29, .ptr q1 0)] (by kernel_rfl) ?_
            refine o_ld hh13 1 0 (.int .i64 4) rfl rfl (by kernel_rfl) ?_
            refine WOps.run dr1 [(31, .agg ([.int .i64 4, .int .i64 0, .int .i64 0, .bool false, .nilsl, .nilsl, .nilsl]))] (by kernel_rfl) ?_
            refine o_al hh13 (.agg ([.int .i64 0, .int .i64 0, .int .i64 0, .bool false, .nilsl, .nilsl, .nilsl])) rfl (by kernel_rfl) fun q4 H37 hh38 => ?_
            refine o_st hh38 0 0 (.agg ([.int .i64 4, .int .i64 0, .int .i64 0, .bool false, .nilsl, .nilsl, .nilsl])) [.int .i64 4, .int .i64 0, .int .i64 0, .bool false, .nilsl, .nilsl, .nilsl] rfl rfl rfl (by kernel_rfl) fun H39 hh40 => ?_
            refine WOps.e0 (Th_n (W.seq (W.seq (W.region ?_))))
            refine WOps.run dr1 [(32, .ptr q1 6)] (by kernel_rfl) ?_
            refine o_ld hh40 2 6 (kids) rfl rfl (by kernel_rfl) ?_
            refine o_vb (.int .i64 (lk : Nat)) (hk.len P30 _) (by kernel_rfl) ?_
            refine WOps.run dr1 [(35, .int .i64 0)] (by kernel_rfl) ?_
            refine WOps.e0 (Th_n (W.blk ?_))
            refine W.lp (fun T u T1 H1 => ∃ (t5 t36 t37 t38 t39 t40 t41 t42 t43 t44 t45 t46 t47 t48 t49 : AV) (i : Nat) (K : AV) (ex : Kn), ups T [(5, t5), (35, .int .i64 (i : Nat)), (36, t36), (37, t37), (38, t38), (39, t39), (40, t40), (41, t41), (42, t42), (43, t43), (44, t44), (45, t45), (46, t46), (47, t47), (48, t48), (49, t49)] = T1 ∧ Has H1 ([(q1, .cells ([.int .i64 4, .int .i64 rl, .int .i64 lv, .bool ng, a, b, kids])), (q2, .cells ([.int .i64 0, .int .i64 0, .int .i64 0, .bool false, .nilsl, .nilsl, .nilsl])), (q4, .cells ([.int .i64 4, .int .i64 0, .int .i64 0, .bool false, .nilsl, .nilsl, K]))] ++ ex) ∧ i + u = lk ∧ Gth 7 (fun j c => ∀ x, (elems 7 kids)[j]? = some x → NR x c) K i ex) (lk) ⟨.undef, .undef, .undef, .undef, .undef, .undef, .undef, .undef, .undef, .undef, .undef, .undef, .undef, .undef, .undef, 0, .nilsl, [], by kernel_rfl, hh40.pick [2, 1, 0] (by decide), Nat.zero_add _, .inl ⟨rfl, rfl, rfl⟩⟩ ?_
            rintro u _ H41 ⟨t5, t36, t37, t38, t39, t40, t41, t42, t43, t44, t45, t46, t47, t48, t49, i, K, ex, rfl, hh42, hi, g⟩
            refine W.seq (W.region ?_)
            have o_K := g.one
            have c_K := g.cells
            by_cases hlt : i < lk
            · refine o_v2 (.bool (decide (((i : Nat) : Int) < ((lk : Nat) : Int)))) (.bool true) (congrArg AV.bool (decide_eq_true (by omega))) (by kernel_rfl) ?_
              refine WOps.e0 (Th_n (W.seq (W.condT (by kernel_rfl) (W.skip (Th_n (W.seq (W.blk (W.seq (W.region ?_)))))))))
              refine WOps.run dr2 [(37, .int .i64 (i : Nat)), (5, .int .i64 (i : Nat))] (by kernel_rfl) ?_
              refine WOps.e0 (Th_n ?_)
              obtain ⟨pp, cs, hpp, hld, hcs, hel⟩ := hk.gete P30 size32 agg32 hlt
              have hcs' := hcs
              obtain ⟨kd2, rl2, lv2, ng2, a2, e2, kids2, rfl, f_a2, f_e2, f_kids2⟩ := hcs.shape
              refine W.rl false hh42 [0, 2] (by decide) _ rfl (by kernel_rfl) ?_
              refine WD.run dr1 [(38, .ptr q4 6)] (by kernel_rfl) ?_
              refine d_ld hh42 [0, 2] (by decide) rfl 1 6 (K) rfl rfl (by kernel_rfl) ?_
              refine WD.run dr1 [(40, .ptr q1 6)] (by kernel_rfl) ?_
              refine d_ld hh42 [0, 2] (by decide) rfl 0 6 (kids) rfl rfl (by kernel_rfl) ?_
              refine WD.run dr1 [(42, .int .i64 (i : Nat))] (by kernel_rfl) ?_
              refine d_vk (pp) (hpp) (by kernel_rfl) ?_
              refine d_vl (.agg ([.int .i64 kd2, .int .i64 rl2, .int .i64 lv2, .bool ng2, a2, e2, kids2])) (hld) (by kernel_rfl) ?_
              have hfi := sumN_mem f hlt
              refine d_call (ys := [.agg ([.int .i64 kd2, .int .i64 rl2, .int .i64 lv2, .bool ng2, a2, e2, kids2])]) hh42 [0, 2] (by decide) rfl (vcons (vagg (vflats (fc rfl (fc rfl (fc rfl (fc rfl (fc f_a2 (fc f_e2 (fc f_kids2 fn0))))))))) vnil) (ih _ _ hcs' (by omega)) rfl (by kernel_rfl) fun z Oz hz => ?_
              obtain ⟨zc, rfl, hnr⟩ := hz
              obtain ⟨kd3, rl3, lv3, ng3, a3, e3, kids3, rfl, f_a3, f_e3, f_kids3⟩ := (hnr.mn hcs').1.shape
              refine d_bs hh42 [.int .i64 kd3, .int .i64 rl3, .int .i64 lv3, .bool ng3, a3, e3, kids3] (ps := [(0, .agg ([.int .i64 kd3, .int .i64 rl3, .int .i64 lv3, .bool ng3, a3, e3, kids3]))]) (qs := [(0, [.int .i64 kd3, .int .i64 rl3, .int .i64 lv3, .bool ng3, a3, e3, kids3])]) (.c rfl .n) (oc1 rfl (oc1 rfl (oc1 rfl (oc1 rfl (oc1 (one_of_flat f_a3) (oc1 (one_of_flat f_e3) (oc1 (one_of_flat f_kids3) oc0))))))) [1, 3] (by decide) (fun _ => rfl) rfl rfl rfl rfl (by kernel_rfl) fun q46 H43 hh44 => ?_
              obtain ⟨K2, ex2, e45, g2⟩ := gth_push [(q46, .cells ([.int .i64 kd3, .int .i64 rl3, .int .i64 lv3, .bool ng3, a3, e3, kids3])), (q1, .cells ([.int .i64 4, .int .i64 rl, .int .i64 lv, .bool ng, a, b, kids])), (q2, .cells ([.int .i64 0, .int .i64 0, .int .i64 0, .bool false, .nilsl, .nilsl, .nilsl])), (q4, .cells ([.int .i64 4, .int .i64 0, .int .i64 0, .bool false, .nilsl, .nilsl, K]))] 30 32 0 g hh44 P30 size32 bytes32 (by kernel_rfl) rfl rfl (fc rfl (fc rfl (fc rfl (fc rfl (fc f_a3 (fc f_e3 (fc f_kids3 fn0))))))) (fun x hx => by rw [hel] at hx; simp only [Option.some.injEq] at hx; rw [← hx]; exact hnr) (by unfold roomA; omega)
              refine d_gen K2 (L := ([(q46, .cells ([.int .i64 kd3, .int .i64 rl3, .int .i64 lv3, .bool ng3, a3, e3, kids3])), (q1, .cells ([.int .i64 4, .int .i64 rl, .int .i64 lv, .bool ng, a, b, kids])), (q2, .cells ([.int .i64 0, .int .i64 0, .int .i64 0, .bool false, .nilsl, .nilsl, .nilsl])), (q4, .cells ([.int .i64 4, .int .i64 0, .int .i64 0, .bool false, .nilsl, .nilsl, K]))] ++ ex2)) e45 [1, 3] (by decide) rfl (by kernel_rfl) fun H46 hh47 => ?_
              have o_K2 := g2.one
              have c_K2 := g2.cells
              refine WD.run dr1 [(48, .ptr q4 6)] (by kernel_rfl) ?_
              refine d_last .undef (m_st (P := Tryz.prog) (t := 30) hh47 3 6 (K2) [K2] c_K2 [.int .i64 4, .int .i64 0, .int .i64 0, .bool false, .nilsl, .nilsl, K2] rfl (oc1 o_K2 oc0) (by kernel_rfl)) (by kernel_rfl) fun H48 hh49 => ?_
              refine WD.e0 (Bk_n (Th_n (W.region ?_)))
              refine o_v2 (.int .i64 (IntKind.i64.wrap (((i : Nat) : Int) + (1 : Int)))) (.int .i64 (((i + 1 : Nat) : Int))) (congrArg (AV.int .i64) (by rw [wrapN] <;> omega)) (by kernel_rfl) ?_
              refine WOps.run dr1 [(35, .int .i64 ((i + 1 : Nat) : Int))] (by kernel_rfl) ?_
              refine WOps.e0 (Th_n ?_)
              exact ⟨u - 1, by omega, .int .i64 (i : Nat), .bool true, .int .i64 (i : Nat), .ptr q4 6, K, .ptr q1 6, kids, .int .i64 (i : Nat), pp, .agg ([.int .i64 kd2, .int .i64 rl2, .int .i64 lv2, .bool ng2, a2, e2, kids2]), .agg ([.int .i64 kd3, .int .i64 rl3, .int .i64 lv3, .bool ng3, a3, e3, kids3]), .sl q46 0 1 7 (some 1), K2, .ptr q4 6, .int .i64 ((i + 1 : Nat) : Int), i + 1, K2, ex2, by kernel_rfl, hh49.pickt [(q46, .cells ([.int .i64 kd3, .int .i64 rl3, .int .i64 lv3, .bool ng3, a3, e3, kids3])), (q1, .cells ([.int .i64 4, .int .i64 rl, .int .i64 lv, .bool ng, a, b, kids])), (q2, .cells ([.int .i64 0, .int .i64 0, .int .i64 0, .bool false, .nilsl, .nilsl, .nilsl])), (q4, .cells ([.int .i64 4, .int .i64 0, .int .i64 0, .bool false, .nilsl, .nilsl, K2]))] [1, 2, 3] (by decide) rfl, by omega, g2⟩
            · refine o_v2 (.bool (decide (((i : Nat) : Int) < ((lk : Nat) : Int)))) (.bool false) (congrArg AV.bool (decide_eq_false (by omega))) (by kernel_rfl) ?_
              refine WOps.e0 (Th_n (W.seq (W.condF (by kernel_rfl) (W.exit (Th_e (Th_e (Bk_s (Th_n (W.seq (W.region ?_))))))))))
              refine o_ld hh42 2 0 (.agg ([.int .i64 4, .int .i64 0, .int .i64 0, .bool false, .nilsl, .nilsl, K])) rfl rfl (by kernel_rfl) ?_
              refine o_st hh42 1 0 (.agg ([.int .i64 4, .int .i64 0, .int .i64 0, .bool false, .nilsl, .nilsl, K])) [.int .i64 4, .int .i64 0, .int .i64 0, .bool false, .nilsl, .nilsl, K] rfl rfl (oc1 rfl (oc1 rfl (oc1 rfl (oc1 rfl (oc1 rfl (oc1 rfl (oc1 o_K oc0))))))) (by kernel_rfl) fun H50 hh51 => ?_
              refine WOps.e0 (Th_n (W.ret (Bk_r (Th_r ?_))))
              obtain ⟨K9, w_K, v_K, l_K9, f_K9⟩ := g.view [(q1, .cells ([.int .i64 4, .int .i64 rl, .int .i64 lv, .bool ng, a, b, kids])), (q2, .cells ([.int .i64 4, .int .i64 0, .int .i64 0, .bool false, .nilsl, .nilsl, K])), (q4, .cells ([.int .i64 4, .int .i64 0, .int .i64 0, .bool false, .nilsl, .nilsl, K]))] hh51
              have hil : i = lk := by omega
              subst hil
              have hl9 := l_K9.el
              exact ret_c (r' := .agg ([.int .i64 4, .int .i64 0, .int .i64 0, .bool false, .nilsl, .nilsl, K9])) (id := q2) (off := 0) (r := .agg ([.int .i64 4, .int .i64 0, .int .i64 0, .bool false, .nilsl, .nilsl, K])) (⟨_, rfl, .node (.inr rfl) (by rw [hl9.1, hk.el.1]) (fun j x y hx hy => hl9.2 j y hy x hx) f_K9 (by rw [hl9.1]; exact l_K9.imp fun _ _ _ _ => trivial)⟩) hh51 1 rfl (.inr rfl) rfl (by kernel_rfl) (by kernel_rfl) (vagg (vcons (vflat rfl) (vcons (vflat rfl) (vcons (vflat rfl) (vcons (vflat rfl) (vcons (vflat rfl) (vcons (vflat rfl) (vcons (v_K _) vnil))))))))
          · refine o_v2 (.bool (((kd : Int) == (4 : Int)))) (.bool false) (congrArg AV.bool (beq_eq_false_iff_ne.2 (k4))) (by kernel_rfl) ?_
            refine WOps.run dr1 [(26, .bool false)] (by kernel_rfl) ?_
            refine WOps.e0 (Th_n (W.condF (by kernel_rfl) (W.skip (Bk_n (Th_n (W.seq (W.region ?_)))))))
            refine WOps.run dr1 [(51, .agg ([.int .i64 0, .int .i64 0, .int .i64 0, .bool false, .nilsl, .nilsl, .nilsl]))] (by kernel_rfl) ?_
            refine o_st hh13 0 0 (.agg ([.int .i64 0, .int .i64 0, .int .i64 0, .bool false, .nilsl, .nilsl, .nilsl])) [.int .i64 0, .int .i64 0, .int .i64 0, .bool false, .nilsl, .nilsl, .nilsl] rfl rfl rfl (by kernel_rfl) fun H52 hh53 => ?_
            refine WOps.e0 (Th_n (W.ret ?_))
            exact ret_c (r' := .agg ([.int .i64 0, .int .i64 0, .int .i64 0, .bool false, .nilsl, .nilsl, .nilsl])) (id := q2) (off := 0) (r := .agg ([.int .i64 0, .int .i64 0, .int .i64 0, .bool false, .nilsl, .nilsl, .nilsl])) (⟨_, rfl, .other k1 k2 k3 k4⟩) hh53 0 rfl (.inr rfl) rfl (by kernel_rfl) (by kernel_rfl) (vagg (vflats rfl))

end Go.AX

/- AX, part 55: the polynomials of a matrix; their highest level; the guard on degrees. -/
set_option linter.unusedVariables false
set_option linter.unusedSimpArgs false
set_option maxRecDepth 4000
set_option maxHeartbeats 4000000
namespace Go.AX
open Go Go.RowKit Go.Proofs
attribute [local irreducible] WOps WD W

theorem Gth.imp {k : Nat} {P Q : Nat → List AV → Prop} {K : AV} {n : Nat} {ex : Kn} (g : Gth k P K n ex) (h : ∀ i c, i < n → P i c → Q i c) : Gth k Q K n ex := by
  rcases g with g | ⟨id, cells, e, h1, h2, h3, h4⟩
  · exact .inl g
  · exact .inr ⟨id, cells, e, h1, h2, h3, fun i hi => h i _ hi (h4 i hi)⟩

/-- The polynomials of the first i kids. -/
def pre (g : List AV → List (List AV)) (kids : AV) (i : Nat) : List (List AV) := ((elems 7 kids).take i).flatMap g

theorem pre_succ {g : List AV → List (List AV)} {kids : AV} {i : Nat} {x : List AV} (h : (elems 7 kids)[i]? = some x) : pre g kids (i + 1) = pre g kids i ++ g x := by
  unfold pre
  rw [List.take_add_one, h]
  simp

theorem pre_all {g : List AV → List (List AV)} {kids : AV} {i : Nat} (h : (elems 7 kids).length ≤ i) : pre g kids i = (elems 7 kids).flatMap g := by
  unfold pre
  rw [List.take_of_length_le h]

theorem pre_le (g : List AV → List (List AV)) (kids : AV) (i : Nat) : (pre g kids i).length ≤ ((elems 7 kids).flatMap g).length := by
  unfold pre
  rw [← List.take_append_drop i (elems 7 kids), List.flatMap_append, List.length_append, List.take_append_drop]
  omega

/-- One kid's polynomials more. -/
theorem gth_pre {g : List AV → List (List AV)} {kids K z : AV} {i len : Nat} {x : List AV} {ex : Kn} (L1 : Kn) {H : Heap} (hg : Gth 4 (fun j c => (pre g kids i)[j]? = some c) K (pre g kids i).length ex) (hH : Has H (L1 ++ ex)) (hx : (elems 7 kids)[i]? = some x)
    (hz : LS 4 (fun i c => (g x)[i]? = some c) z len) (hlen : len = (g x).length) (hfl : ∀ c ∈ g x, CV 4 L0 N0 c) (hb : ((elems 7 kids).flatMap g).length ≤ 2 ^ 30) :
    ∃ K' ex', (∃ H', builtinA Tryz.prog .append [27, 27] H [K, z] = some (K', H') ∧ Has H' (L1 ++ ex')) ∧ Gth 4 (fun j c => (pre g kids (i + 1))[j]? = some c) K' (pre g kids (i + 1)).length ex' := by
  have hp := pre_succ (g := g) hx
  have hl := pre_le g kids (i + 1)
  rw [hp, List.length_append] at hl
  have h := gth_cat (P := fun j c => (pre g kids (i + 1))[j]? = some c) (Q := fun i c => (g x)[i]? = some c ∧ c.all isFlat = true) L1 27 29 (hg.imp fun j c hj h => by rw [hp, List.getElem?_append_left hj]; exact h) hH (hz.of_el fun j c hj hc => ⟨hz.el.2 j c hc, cv_allflat (hfl c (List.mem_of_getElem? (hz.el.2 j c hc)))⟩) P27 size29 bytes29' (by kernel_rfl) rfl
    (fun _ _ h => h.2) (fun j c hj h => by rw [hp, List.getElem?_append_right (by omega), Nat.add_sub_cancel_left]; exact h.1) (by unfold roomA; omega)
  rw [hp, List.length_append, ← hlen]
  rw [hp] at h
  exact h

theorem mPolys_con : ∀ (d N : Nat) (m : List AV), MN d N m → d ≤ 12 → N ≤ 2 ^ 20 → Con 20 [.agg m] (Sp1 20 [.agg m]) := by
  intro d
  induction d with
  | zero => intro N m h; exact h.elim
  | succ d ih =>
    intro N m hm hd hN
    have hm' := hm
    have hlen12 : (mpolys 12 m).length ≤ N := by rw [mpolys_stable hm (by omega)]; exact mpolys_len hm
    obtain ⟨kd, rl, lv, ng, a, b, kids, lk, f, rfl, hpo, hk, hsum⟩ := hm
    obtain ⟨f_a, f_b, _⟩ := hpo.fl
    have f_kids := hk.flat
    have hlkN : lk ≤ sumN f lk := sumN_ge fun i hi => (hk.el.2 i _ (List.getElem?_eq_getElem (by rw [hk.el.1]; exact hi))).pos
    have hst : ∀ (i : Nat) x, (elems 7 kids)[i]? = some x → mpolys 11 x = mpolys 12 x := fun i x hx => by rw [mpolys_stable (hk.el.2 i x hx) (e := 12) (by omega), mpolys_stable (hk.el.2 i x hx) (e := 11) (by omega)]
    refine con_ret (Sp := Sp1) Tryz.func20 rfl ?_
    show W (ES Sp1) _ _ ⟨[.agg ([.int .i64 kd, .int .i64 rl, .int .i64 lv, .bool ng, a, b, kids])] ++ List.replicate 26 .undef, []⟩
    have hh1 := @Has.nil ([] : Heap)
    refine W.seq (W.region ?_)
    refine o_bx hh1 (.agg ([.int .i64 kd, .int .i64 rl, .int .i64 lv, .bool ng, a, b, kids])) [.int .i64 kd, .int .i64 rl, .int .i64 lv, .bool ng, a, b, kids] rfl (oc1 rfl (oc1 rfl (oc1 rfl (oc1 rfl (oc1 (one_of_flat f_a) (oc1 (one_of_flat f_b) (oc1 (one_of_flat f_kids) oc0))))))) rfl (by kernel_rfl) fun q1 H2 hh3 => ?_
    refine WOps.run dr1 [(2, .nilsl)] (by kernel_rfl) ?_
    refine WOps.e0 (Th_n (W.seq (W.seq (W.region ?_))))
    refine WOps.run dr1 [(5, .ptr q1 0)] (by kernel_rfl) ?_
    refine o_ld hh3 0 0 (.int .i64 kd) rfl rfl (by kernel_rfl) ?_
    by_cases k2 : kd = 2
    · subst k2
      refine WOps.run dr1 [(7, .bool true)] (by kernel_rfl) ?_
      refine WOps.e0 (Th_n (W.condT (by kernel_rfl) (W.seq (W.region ?_))))
      refine WOps.run dr1 [(8, .ptr q1 2)] (by kernel_rfl) ?_
      refine o_ld hh3 0 2 (.agg ([.int .i64 lv, .bool ng, a, b])) rfl rfl (by kernel_rfl) ?_
      refine o_bs hh3 [.int .i64 lv, .bool ng, a, b] (ps := [(0, .agg ([.int .i64 lv, .bool ng, a, b]))]) (qs := [(0, [.int .i64 lv, .bool ng, a, b])]) (.c rfl .n) (oc1 rfl (oc1 rfl (oc1 (one_of_flat f_a) (oc1 (one_of_flat f_b) oc0)))) rfl rfl rfl rfl (by kernel_rfl) fun q10 H4 hh5 => ?_
      refine WOps.run dr1 [(2, .sl q10 0 1 4 (some 1))] (by kernel_rfl) ?_
      refine WOps.e0 (Th_n (W.ret (Th_r ?_)))
      have e12 : mpolys 12 [.int .i64 2, .int .i64 rl, .int .i64 lv, .bool ng, a, b, kids] = [[.int .i64 lv, .bool ng, a, b]] := rfl
      exact ret_t (r' := .lst ([.int .i64 lv, .bool ng, a, b]) 1 (some 1)) (⟨1, .inr ⟨_, _, rfl, rfl, fun i hi => by have : i = 0 := (by omega); subst this; rw [e12]; rfl⟩, by rw [e12]; rfl⟩) (.inr rfl) rfl (by kernel_rfl) (vsl (k := 0) (off := 0) (len := 1) (sz := 4) (cap := (some 1)) (cs := [.int .i64 lv, .bool ng, a, b]) hh5 rfl (Nat.le_of_ble_eq_true rfl) (vflats (fc rfl (fc rfl (fc f_a (fc f_b fn0))))))
    · refine o_v2 (.bool (((kd : Int) == (2 : Int)))) (.bool false) (congrArg AV.bool (beq_eq_false_iff_ne.2 (k2))) (by kernel_rfl) ?_
      refine WOps.e0 (Th_n (W.condF (by kernel_rfl) (W.skip (Th_n (W.seq (W.region ?_))))))
      refine WOps.run dr1 [(3, .nilsl)] (by kernel_rfl) ?_
      refine WOps.e0 (Th_n (W.seq (W.seq (W.region ?_))))
      refine WOps.run dr1 [(11, .ptr q1 6)] (by kernel_rfl) ?_
      refine o_ld hh3 0 6 (kids) rfl rfl (by kernel_rfl) ?_
      have e12 : mpolys 12 [.int .i64 kd, .int .i64 rl, .int .i64 lv, .bool ng, a, b, kids] = (elems 7 kids).flatMap (mpolys 12) := by
        show (if kd = 2 then _ else (elems 7 kids).flatMap (mpolys 11)) = _
        rw [if_neg k2]
        exact flatMap_congr' hst
      rw [e12] at hlen12
      refine o_vb (.int .i64 (lk : Nat)) (hk.len P30 _) (by kernel_rfl) ?_
      refine WOps.run dr1 [(14, .int .i64 0)] (by kernel_rfl) ?_
      refine WOps.e0 (Th_n (W.blk ?_))
      refine W.lp (fun T u T1 H1 => ∃ (t4 t15 t16 t17 t18 t19 t20 t21 t22 t23 t24 t25 : AV) (i : Nat) (K : AV) (ex : Kn), ups T [(3, K), (4, t4), (14, .int .i64 (i : Nat)), (15, t15), (16, t16), (17, t17), (18, t18), (19, t19), (20, t20), (21, t21), (22, t22), (23, t23), (24, t24), (25, t25)] = T1 ∧ Has H1 ([(q1, .cells ([.int .i64 kd, .int .i64 rl, .int .i64 lv, .bool ng, a, b, kids]))] ++ ex) ∧ i + u = lk ∧ Gth 4 (fun j c => (pre (mpolys 12) kids i)[j]? = some c) K (pre (mpolys 12) kids i).length ex) (lk) ⟨.undef, .undef, .undef, .undef, .undef, .undef, .undef, .undef, .undef, .undef, .undef, .undef, 0, .nilsl, [], by kernel_rfl, hh3.pick [0] (by decide), Nat.zero_add _, .inl ⟨rfl, rfl, rfl⟩⟩ ?_
      rintro u _ H6 ⟨t4, t15, t16, t17, t18, t19, t20, t21, t22, t23, t24, t25, i, K, ex, rfl, hh7, hi, g⟩
      refine W.seq (W.region ?_)
      have o_K := g.one
      have c_K := g.cells
      by_cases hlt : i < lk
      · refine o_v2 (.bool (decide (((i : Nat) : Int) < ((lk : Nat) : Int)))) (.bool true) (congrArg AV.bool (decide_eq_true (by omega))) (by kernel_rfl) ?_
        refine WOps.e0 (Th_n (W.seq (W.condT (by kernel_rfl) (W.skip (Th_n (W.seq (W.blk (W.seq (W.region ?_)))))))))
        refine WOps.run dr2 [(16, .int .i64 (i : Nat)), (4, .int .i64 (i : Nat))] (by kernel_rfl) ?_
        refine WOps.e0 (Th_n (W.region ?_))
        refine WOps.run dr2 [(17, K), (18, .ptr q1 6)] (by kernel_rfl) ?_
        refine o_ld hh7 0 6 (kids) rfl rfl (by kernel_rfl) ?_
        refine WOps.run dr1 [(20, .int .i64 (i : Nat))] (by kernel_rfl) ?_
        obtain ⟨pp, cs, hpp, hld, hcs, hel⟩ := hk.gete P30 size32 agg32 hlt
        have hcs' := hcs
        obtain ⟨kd2, rl2, lv2, ng2, a2, e2, kids2, rfl, f_a2, f_e2, f_kids2⟩ := hcs.shape
        refine o_vk (pp) (hpp) (by kernel_rfl) ?_
        refine o_vk (.agg ([.int .i64 kd2, .int .i64 rl2, .int .i64 lv2, .bool ng2, a2, e2, kids2])) ((hld) H6) (by kernel_rfl) ?_
        have hfi := sumN_mem f hlt
        refine o_call (ys := [.agg ([.int .i64 kd2, .int .i64 rl2, .int .i64 lv2, .bool ng2, a2, e2, kids2])]) (vcons (vagg (vflats (fc rfl (fc rfl (fc rfl (fc rfl (fc f_a2 (fc f_e2 (fc f_kids2 fn0))))))))) vnil) (ih _ _ hcs' (by omega) (by omega)) rfl (by kernel_rfl) fun z Oz hz => ?_
        obtain ⟨len, hzl, hlen⟩ := hz
        have f_z := hzl.flat
        obtain ⟨K2, ex2, e8, g2⟩ := gth_pre [(q1, .cells ([.int .i64 kd, .int .i64 rl, .int .i64 lv, .bool ng, a, b, kids]))] g hh7 hel hzl hlen (by rw [mpolys_stable hcs' (by omega)]; exact mpolys_cv hcs') (by omega)
        refine o_gen K2 (L := ([(q1, .cells ([.int .i64 kd, .int .i64 rl, .int .i64 lv, .bool ng, a, b, kids]))] ++ ex2)) e8 (by kernel_rfl) fun H9 hh10 => ?_
        have o_K2 := g2.one
        have c_K2 := g2.cells
        refine WOps.run dr1 [(3, K2)] (by kernel_rfl) ?_
        refine WOps.e0 (Bk_n (Th_n (W.region ?_)))
        refine o_v2 (.int .i64 (IntKind.i64.wrap (((i : Nat) : Int) + (1 : Int)))) (.int .i64 (((i + 1 : Nat) : Int))) (congrArg (AV.int .i64) (by rw [wrapN] <;> omega)) (by kernel_rfl) ?_
        refine WOps.run dr1 [(14, .int .i64 ((i + 1 : Nat) : Int))] (by kernel_rfl) ?_
        refine WOps.e0 (Th_n ?_)
        exact ⟨u - 1, by omega, .int .i64 (i : Nat), .bool true, .int .i64 (i : Nat), K, .ptr q1 6, kids, .int .i64 (i : Nat), pp, .agg ([.int .i64 kd2, .int .i64 rl2, .int .i64 lv2, .bool ng2, a2, e2, kids2]), z, K2, .int .i64 ((i + 1 : Nat) : Int), i + 1, K2, ex2, by kernel_rfl, hh10.pickt [(q1, .cells ([.int .i64 kd, .int .i64 rl, .int .i64 lv, .bool ng, a, b, kids]))] [0] (by decide) rfl, by omega, g2⟩
      · refine o_v2 (.bool (decide (((i : Nat) : Int) < ((lk : Nat) : Int)))) (.bool false) (congrArg AV.bool (decide_eq_false (by omega))) (by kernel_rfl) ?_
        refine WOps.e0 (Th_n (W.seq (W.condF (by kernel_rfl) (W.exit (Th_e (Th_e (Bk_s (Th_n (W.seq (W.region ?_))))))))))
        refine WOps.run dr2 [(26, K), (2, K)] (by kernel_rfl) ?_
        refine WOps.e0 (Th_n (W.ret ?_))
        have hil : i = lk := by omega
        subst hil
        rw [pre_all (by rw [hk.el.1]; exact Nat.le_refl _)] at g
        obtain ⟨K9, w_K, v_K, l_K9, f_K9⟩ := g.view [(q1, .cells ([.int .i64 kd, .int .i64 rl, .int .i64 lv, .bool ng, a, b, kids]))] hh7
        exact ret_t (r' := K9) (⟨_, by rw [e12]; exact l_K9, by rw [e12]⟩) (.inr rfl) rfl (by kernel_rfl) (v_K _)

theorem bmax (ts : List TypeId) (H : Heap) (a b : Int) : builtinA Tryz.prog .max ts H [.int .i64 a, .int .i64 b] = some (.int .i64 (max a b), H) := by
  have : (if b > a then b else a) = max a b := by split <;> omega
  simp only [builtinA, foldA, if_true, this, Option.map_some]

theorem maxl_nonneg : ∀ l : List Int, 0 ≤ maxl l
  | [] => Int.le_refl _
  | a :: l => by have := maxl_nonneg l; simp only [maxl]; omega

theorem maxl_snoc : ∀ (l : List Int) (x : Int), maxl (l ++ [x]) = max (maxl l) x
  | [], x => by simp only [List.nil_append, maxl]; omega
  | a :: l, x => by simp only [List.cons_append, maxl]; rw [maxl_snoc l x]; omega

theorem take_lev {l : List (List AV)} {i : Nat} {c : List AV} (h : l[i]? = some c) : maxl ((l.take (i + 1)).map lev) = max (maxl ((l.take i).map lev)) (lev c) := by
  rw [List.take_add_one, h]
  simp only [Option.toList_some, List.map_append, List.map_cons, List.map_nil]
  exact maxl_snoc _ _

theorem getLev {l : List (List AV)} (hl : ∀ c ∈ l, CV 4 L0 N0 c) {r : AV} {len : Nat} (h : LS 4 (fun i c => l[i]? = some c) r len) {i : Nat} (hi : i < len) : ∃ p p2 c, indexAddrA Tryz.prog 27 r i = some p ∧ addA p 0 = some p2 ∧ (∀ H, loadA Tryz.prog H 3 p2 = some (.int .i64 (lev c))) ∧ l[i]? = some c := by
  rcases h with ⟨_, rfl⟩ | ⟨cells, cap, rfl, h1, h2⟩
  · omega
  · have hc := hl _ (List.mem_of_getElem? (h2 i hi))
    obtain ⟨lv, ng, a, b, e, _⟩ := hc.pv
    have hp := h2 i hi
    rw [e] at hp
    refine ⟨_, _, _, idx27 hi h1, rfl, fun H => ?_, hp⟩
    have h0 : (cells.drop (i * 4))[0]? = some (.int .i64 lv) := by
      have := congrArg (fun l => l[0]?) e
      simpa using this
    have ag3 : isAggT Tryz.prog 3 = some false := by kernel_rfl
    simp only [loadA, readAt, ag3, List.drop_zero, h0, lev]

theorem mLevel_con (d N : Nat) (m : List AV) (hm : MN d N m) (hd : d ≤ 12) (hN : N ≤ 2 ^ 20) : Con 42 [.agg m] (Sp1 42 [.agg m]) := by
  have hm' := hm
  have hcv : ∀ c ∈ mpolys 12 m, CV 4 L0 N0 c := by rw [mpolys_stable hm (by omega)]; exact mpolys_cv hm
  have hlen12 : (mpolys 12 m).length ≤ N := by rw [mpolys_stable hm (by omega)]; exact mpolys_len hm
  obtain ⟨kd, rl, lv, ng, a, b, kids, rfl, f_a, f_b, f_kids⟩ := hm.shape
  refine con_ret (Sp := Sp1) Tryz.func42 rfl ?_
  show W (ES Sp1) _ _ ⟨[.agg ([.int .i64 kd, .int .i64 rl, .int .i64 lv, .bool ng, a, b, kids])] ++ List.replicate 21 .undef, []⟩
  have hh11 := @Has.nil ([] : Heap)
  refine W.seq (W.region ?_)
  refine o_bx hh11 (.agg ([.int .i64 kd, .int .i64 rl, .int .i64 lv, .bool ng, a, b, kids])) [.int .i64 kd, .int .i64 rl, .int .i64 lv, .bool ng, a, b, kids] rfl (oc1 rfl (oc1 rfl (oc1 rfl (oc1 rfl (oc1 (one_of_flat f_a) (oc1 (one_of_flat f_b) (oc1 (one_of_flat f_kids) oc0))))))) rfl (by kernel_rfl) fun q1 H12 hh13 => ?_
  refine WOps.run dr1 [(2, .int .i64 0)] (by kernel_rfl) ?_
  refine WOps.e0 (Th_n (W.seq (W.region ?_)))
  refine WOps.run dr1 [(3, .int .i64 0)] (by kernel_rfl) ?_
  refine WOps.e0 (Th_n (W.seq (W.region ?_)))
  refine o_ld hh13 0 0 (.agg ([.int .i64 kd, .int .i64 rl, .int .i64 lv, .bool ng, a, b, kids])) rfl rfl (by kernel_rfl) ?_
  refine o_call (ys := [.agg ([.int .i64 kd, .int .i64 rl, .int .i64 lv, .bool ng, a, b, kids])]) (vcons (vagg (vflats (fc rfl (fc rfl (fc rfl (fc rfl (fc f_a (fc f_b (fc f_kids fn0))))))))) vnil) (mPolys_con d N _ hm' hd hN) rfl (by kernel_rfl) fun z Oz hz => ?_
  obtain ⟨len, hzl, hlen⟩ := hz
  have f_z := hzl.flat
  refine WOps.run dr1 [(4, z)] (by kernel_rfl) ?_
  refine WOps.e0 (Th_n (W.seq (W.seq (W.region ?_))))
  refine WOps.run dr1 [(8, z)] (by kernel_rfl) ?_
  refine o_vb (.int .i64 (len : Nat)) (hzl.len P27 _) (by kernel_rfl) ?_
  refine WOps.run dr1 [(10, .int .i64 0)] (by kernel_rfl) ?_
  refine WOps.e0 (Th_n (W.blk ?_))
  generalize hps : mpolys 12 [.int .i64 kd, .int .i64 rl, .int .i64 lv, .bool ng, a, b, kids] = ps at hzl hlen hcv hlen12
  refine W.lp (fun T u T1 H1 => ∃ (t5 t11 t12 t13 t14 t15 t16 t17 t18 t19 t20 : AV) (i : Nat) (c : Int), ups T [(3, .int .i64 c), (5, t5), (10, .int .i64 (i : Nat)), (11, t11), (12, t12), (13, t13), (14, t14), (15, t15), (16, t16), (17, t17), (18, t18), (19, t19), (20, t20)] = T1 ∧ Has H1 [(q1, .cells ([.int .i64 kd, .int .i64 rl, .int .i64 lv, .bool ng, a, b, kids]))] ∧ i + u = len ∧ c = maxl ((ps.take i).map lev)) (len) ⟨.undef, .undef, .undef, .undef, .undef, .undef, .undef, .undef, .undef, .undef, .undef, 0, 0, by kernel_rfl, hh13.pick [0] (by decide), Nat.zero_add _, rfl⟩ ?_
  rintro u _ H14 ⟨t5, t11, t12, t13, t14, t15, t16, t17, t18, t19, t20, i, c, rfl, hh15, hi, hc⟩
  refine W.seq (W.region ?_)
  by_cases hlt : i < len
  · refine o_v2 (.bool (decide (((i : Nat) : Int) < ((len : Nat) : Int)))) (.bool true) (congrArg AV.bool (decide_eq_true (by omega))) (by kernel_rfl) ?_
    refine WOps.e0 (Th_n (W.seq (W.condT (by kernel_rfl) (W.skip (Th_n (W.seq (W.blk (W.seq (W.region ?_)))))))))
    refine WOps.run dr2 [(12, .int .i64 (i : Nat)), (5, .int .i64 (i : Nat))] (by kernel_rfl) ?_
    refine WOps.e0 (Th_n (W.region ?_))
    refine WOps.run dr3 [(13, .int .i64 c), (14, z), (15, .int .i64 (i : Nat))] (by kernel_rfl) ?_
    obtain ⟨p, p2, cc, hp, hp2, hld, hcc⟩ := getLev hcv hzl hlt
    refine o_vk (p) (hp) (by kernel_rfl) ?_
    refine o_vk (p2) (hp2) (by kernel_rfl) ?_
    refine o_vk (.int .i64 (lev cc)) ((hld) H14) (by kernel_rfl) ?_
    refine o_vb (.int .i64 (max c (lev cc))) (bmax [3, 3] _ c (lev cc)) (by kernel_rfl) ?_
    refine WOps.run dr1 [(3, .int .i64 (max c (lev cc)))] (by kernel_rfl) ?_
    refine WOps.e0 (Bk_n (Th_n (W.region ?_)))
    refine o_v2 (.int .i64 (IntKind.i64.wrap (((i : Nat) : Int) + (1 : Int)))) (.int .i64 (((i + 1 : Nat) : Int))) (congrArg (AV.int .i64) (by rw [wrapN] <;> omega)) (by kernel_rfl) ?_
    refine WOps.run dr1 [(10, .int .i64 ((i + 1 : Nat) : Int))] (by kernel_rfl) ?_
    refine WOps.e0 (Th_n ?_)
    exact ⟨u - 1, by omega, .int .i64 (i : Nat), .bool true, .int .i64 (i : Nat), .int .i64 c, z, .int .i64 (i : Nat), p, p2, .int .i64 (lev cc), .int .i64 (max c (lev cc)), .int .i64 ((i + 1 : Nat) : Int), i + 1, max c (lev cc), by kernel_rfl, hh15.pick [0] (by decide), by omega, by rw [take_lev hcc, hc]⟩
  · refine o_v2 (.bool (decide (((i : Nat) : Int) < ((len : Nat) : Int)))) (.bool false) (congrArg AV.bool (decide_eq_false (by omega))) (by kernel_rfl) ?_
    refine WOps.e0 (Th_n (W.seq (W.condF (by kernel_rfl) (W.exit (Th_e (Th_e (Bk_s (Th_n (W.seq (W.region ?_))))))))))
    refine WOps.run dr2 [(21, .int .i64 c), (2, .int .i64 c)] (by kernel_rfl) ?_
    refine WOps.e0 (Th_n (W.ret ?_))
    have hil : i = len := by omega
    rw [hil, hlen, List.take_of_length_le (Nat.le_refl _)] at hc
    exact ret_t (r' := .int .i64 c) (congrArg (AV.int .i64) (by rw [hc, ← hps])) (.inr rfl) rfl (by kernel_rfl) (vflat rfl)

theorem small_con (m : List AV) (n : Nat) (deg : Int) (hm : TM 12 m) (hn : n ≤ 2 ^ 20) (h0 : -2 ^ 40 ≤ deg) (h1 : deg ≤ 2 ^ 40) : Con 9 [.agg m, .int .i64 (n : Nat), .int .i64 deg] (Sp1 9 [.agg m, .int .i64 (n : Nat), .int .i64 deg]) := by
  have hm' := hm
  obtain ⟨kd, rl, lv, ng, a, b, kids, lk, rfl, hpo, hk, hk2⟩ := hm.v
  obtain ⟨_, _, _, _, e, f_a, f_b⟩ := hpo.shape
  simp at e
  obtain ⟨_, _, rfl, rfl⟩ := e
  have f_kids := hk.flat
  refine con_ret (Sp := Sp1) Tryz.func9 rfl ?_
  show W (ES Sp1) _ _ ⟨[.agg ([.int .i64 kd, .int .i64 rl, .int .i64 lv, .bool ng, a, b, kids]), .int .i64 (n : Nat), .int .i64 deg] ++ List.replicate 26 .undef, []⟩
  have hh16 := @Has.nil ([] : Heap)
  refine W.seq (W.region ?_)
  refine o_bx hh16 (.agg ([.int .i64 kd, .int .i64 rl, .int .i64 lv, .bool ng, a, b, kids])) [.int .i64 kd, .int .i64 rl, .int .i64 lv, .bool ng, a, b, kids] rfl (oc1 rfl (oc1 rfl (oc1 rfl (oc1 rfl (oc1 (one_of_flat f_a) (oc1 (one_of_flat f_b) (oc1 (one_of_flat f_kids) oc0))))))) rfl (by kernel_rfl) fun q3 H17 hh18 => ?_
  refine WOps.run dr1 [(6, .bool false)] (by kernel_rfl) ?_
  refine WOps.e0 (Th_n (W.seq (W.seq (W.region ?_))))
  refine o_ld hh18 0 0 (.agg ([.int .i64 kd, .int .i64 rl, .int .i64 lv, .bool ng, a, b, kids])) rfl rfl (by kernel_rfl) ?_
  refine WOps.run dr1 [(10, .int .i64 (n : Nat))] (by kernel_rfl) ?_
  refine o_call (ys := [.agg ([.int .i64 kd, .int .i64 rl, .int .i64 lv, .bool ng, a, b, kids]), .int .i64 (n : Nat)]) (vcons (vagg (vflats (fc rfl (fc rfl (fc rfl (fc rfl (fc f_a (fc f_b (fc f_kids fn0))))))))) (vcons (vflat rfl) vnil)) (Few_con _ (n : Nat) hm' (by omega) (by omega)) rfl (by kernel_rfl) fun z Oz hz => ?_
  obtain ⟨c, rfl, hz⟩ := hz
  cases c with
  | false =>
    refine WOps.run dr1 [(12, .bool true)] (by kernel_rfl) ?_
    refine WOps.e0 (Th_n (W.condT (by kernel_rfl) (W.seq (W.region ?_))))
    refine WOps.run dr1 [(6, .bool false)] (by kernel_rfl) ?_
    refine WOps.e0 (Th_n (W.ret (Th_r ?_)))
    exact ret_t (r' := .bool false) (⟨false, rfl⟩) (.inr rfl) rfl (by kernel_rfl) (vflat rfl)
  | true =>
    refine WOps.run dr1 [(12, .bool false)] (by kernel_rfl) ?_
    refine WOps.e0 (Th_n (W.condF (by kernel_rfl) (W.skip (Th_n (W.seq (W.region ?_))))))
    refine o_ld hh18 0 0 (.agg ([.int .i64 kd, .int .i64 rl, .int .i64 lv, .bool ng, a, b, kids])) rfl rfl (by kernel_rfl) ?_
    have hmv : MV 12 n [.int .i64 kd, .int .i64 rl, .int .i64 lv, .bool ng, a, b, kids] := hz rfl
    refine o_call (ys := [.agg ([.int .i64 kd, .int .i64 rl, .int .i64 lv, .bool ng, a, b, kids])]) (vcons (vagg (vflats (fc rfl (fc rfl (fc rfl (fc rfl (fc f_a (fc f_b (fc f_kids fn0))))))))) vnil) (mNormal_con 12 n _ hmv hn) rfl (by kernel_rfl) fun y Oy hy => ?_
    obtain ⟨yc, rfl, hnr⟩ := hy
    have hmn := (hnr.mn hmv).1
    have hcv := mpolys_cv hmn
    have hlen12 := mpolys_len hmn
    obtain ⟨kd2, rl2, lv2, ng2, a2, e2, kids2, rfl, f_a2, f_e2, f_kids2⟩ := hmn.shape
    refine o_call (ys := [.agg ([.int .i64 kd2, .int .i64 rl2, .int .i64 lv2, .bool ng2, a2, e2, kids2])]) (vcons (vagg (vflats (fc rfl (fc rfl (fc rfl (fc rfl (fc f_a2 (fc f_e2 (fc f_kids2 fn0))))))))) vnil) (mPolys_con 12 n _ hmn (by omega) hn) rfl (by kernel_rfl) fun w Ow hw => ?_
    obtain ⟨len, hwl, hlen⟩ := hw
    have f_w := hwl.flat
    refine WOps.run dr1 [(7, w)] (by kernel_rfl) ?_
    refine WOps.e0 (Th_n (W.seq (W.seq (W.region ?_))))
    refine WOps.run dr1 [(16, w)] (by kernel_rfl) ?_
    refine o_vb (.int .i64 (len : Nat)) (hwl.len P27 _) (by kernel_rfl) ?_
    refine WOps.run dr1 [(18, .int .i64 0)] (by kernel_rfl) ?_
    refine WOps.e0 (Th_n (W.blk ?_))
    refine W.lp (fun T u T1 H1 => ∃ (t6 t8 t19 t20 t21 t22 t23 t24 t25 t26 t27 t28 : AV) (i : Nat), ups T [(6, t6), (8, t8), (18, .int .i64 (i : Nat)), (19, t19), (20, t20), (21, t21), (22, t22), (23, t23), (24, t24), (25, t25), (26, t26), (27, t27), (28, t28)] = T1 ∧ Has H1 [(q3, .cells ([.int .i64 kd, .int .i64 rl, .int .i64 lv, .bool ng, a, b, kids]))] ∧ i + u = len) (len) ⟨.bool false, .undef, .undef, .undef, .undef, .undef, .undef, .undef, .undef, .undef, .undef, .undef, 0, by kernel_rfl, hh18.pick [0] (by decide), Nat.zero_add _⟩ ?_
    rintro u _ H19 ⟨t6, t8, t19, t20, t21, t22, t23, t24, t25, t26, t27, t28, i, rfl, hh20, hi⟩
    refine W.seq (W.region ?_)
    by_cases hlt : i < len
    · refine o_v2 (.bool (decide (((i : Nat) : Int) < ((len : Nat) : Int)))) (.bool true) (congrArg AV.bool (decide_eq_true (by omega))) (by kernel_rfl) ?_
      refine WOps.e0 (Th_n (W.seq (W.condT (by kernel_rfl) (W.skip (Th_n (W.seq (W.blk (W.seq (W.region ?_)))))))))
      refine WOps.run dr2 [(20, .int .i64 (i : Nat)), (8, .int .i64 (i : Nat))] (by kernel_rfl) ?_
      refine WOps.e0 (Th_n (W.seq (W.region ?_)))
      refine WOps.run dr2 [(21, w), (22, .int .i64 (i : Nat))] (by kernel_rfl) ?_
      obtain ⟨p, lv3, ng3, a3, e3, hp, hld, hel, hpc⟩ := getPoly hcv hwl hlt
      obtain ⟨f_a3, f_e3, _⟩ := hpc.fl
      refine o_vk (p) (hp) (by kernel_rfl) ?_
      refine o_vk (.agg ([.int .i64 lv3, .bool ng3, a3, e3])) ((hld) H19) (by kernel_rfl) ?_
      refine WOps.run dr1 [(25, .int .i64 deg)] (by kernel_rfl) ?_
      refine o_call (ys := [.agg ([.int .i64 lv3, .bool ng3, a3, e3]), .int .i64 deg]) (vcons (vagg (vflats (fc rfl (fc rfl (fc f_a3 (fc f_e3 fn0)))))) (vcons (vflat rfl) vnil)) (Small_con 5 _ _ _ deg hpc.rv L0_le (Nat.le_trans N0_le (by omega)) h0 h1) rfl (by kernel_rfl) fun v Ov hv => ?_
      obtain ⟨c2, rfl⟩ := hv
      cases c2 with
      | false =>
        refine WOps.run dr1 [(27, .bool true)] (by kernel_rfl) ?_
        refine WOps.e0 (Th_n (W.condT (by kernel_rfl) (W.seq (W.region ?_))))
        refine WOps.run dr1 [(6, .bool false)] (by kernel_rfl) ?_
        refine WOps.e0 (Th_n (W.ret (Bk_r (Th_r (Th_r (Bk_r (Th_r ?_)))))))
        exact ret_t (r' := .bool false) (⟨false, rfl⟩) (.inr rfl) rfl (by kernel_rfl) (vflat rfl)
      | true =>
        refine WOps.run dr1 [(27, .bool false)] (by kernel_rfl) ?_
        refine WOps.e0 (Th_n (W.condF (by kernel_rfl) (W.skip (Bk_n (Th_n (W.region ?_))))))
        refine o_v2 (.int .i64 (IntKind.i64.wrap (((i : Nat) : Int) + (1 : Int)))) (.int .i64 (((i + 1 : Nat) : Int))) (congrArg (AV.int .i64) (by rw [wrapN] <;> omega)) (by kernel_rfl) ?_
        refine WOps.run dr1 [(18, .int .i64 ((i + 1 : Nat) : Int))] (by kernel_rfl) ?_
        refine WOps.e0 (Th_n ?_)
        exact ⟨u - 1, by omega, t6, .int .i64 (i : Nat), .bool true, .int .i64 (i : Nat), w, .int .i64 (i : Nat), p, .agg ([.int .i64 lv3, .bool ng3, a3, e3]), .int .i64 deg, .bool true, .bool false, .int .i64 ((i + 1 : Nat) : Int), i + 1, by kernel_rfl, hh20.pick [0] (by decide), by omega⟩
    · refine o_v2 (.bool (decide (((i : Nat) : Int) < ((len : Nat) : Int)))) (.bool false) (congrArg AV.bool (decide_eq_false (by omega))) (by kernel_rfl) ?_
      refine WOps.e0 (Th_n (W.seq (W.condF (by kernel_rfl) (W.exit (Th_e (Th_e (Bk_s (Th_n (W.seq (W.region ?_))))))))))
      refine WOps.run dr1 [(6, .bool true)] (by kernel_rfl) ?_
      refine WOps.e0 (Th_n (W.ret ?_))
      exact ret_t (r' := .bool true) (⟨true, rfl⟩) (.inr rfl) rfl (by kernel_rfl) (vflat rfl)

end Go.AX
