/- AX, part 56: names. -/
import Derived.Test.YtkkdpjmefjampaaGreatC3
set_option linter.unusedVariables false
set_option linter.unusedSimpArgs false
set_option maxRecDepth 4000
set_option maxHeartbeats 4000000
namespace Go.AX
open Go Go.RowKit Go.Proofs
attribute [local irreducible] WOps WD W

theorem P9 : Tryz.prog.underlying 9 = some TypeDesc.string := by kernel_rfl

theorem idx9 {s : ByteArray} {i : Nat} (h : i < s.size) : indexA Tryz.prog 9 (.str s) i = some (.int .u8 (byteAt s i)) := by
  simp only [indexA, P9, byteAt, h, dif_pos]

def IsS (_ : Nat) (c : List AV) : Prop := ∃ s, c = [.str s]

/-- The names in a list. -/
def namesOf (l : AV) : List ByteArray := (elems 1 l).map strOf

theorem names_len {l : AV} {ln : Nat} (h : LS 1 IsS l ln) : (namesOf l).length = ln := by rw [namesOf, List.length_map, h.el.1]

theorem getName {l : AV} {ln : Nat} (h : LS 1 IsS l ln) {i : Nat} (hi : i < ln) : ∃ p t, indexAddrA Tryz.prog 48 l i = some p ∧ (∀ H, loadA Tryz.prog H 9 p = some (.str t)) ∧ (namesOf l)[i]? = some t := by
  obtain ⟨p, v, h1, h2, ⟨t, ht⟩, h4⟩ := h.gete1 P48 size9 agg9 hi
  simp only [List.cons.injEq, and_true] at ht
  subst ht
  exact ⟨p, t, h1, h2, by rw [namesOf, List.getElem?_map, h4]; rfl⟩

theorem letter_con (c : Int) : Con 215 [.int .u8 c] (Sp1 215 [.int .u8 c]) := by
  refine con_ret (Sp := Sp1) Tryz.func215 rfl ?_
  show W (ES Sp1) _ _ ⟨[.int .u8 c] ++ List.replicate 20 .undef, []⟩
  have hh1 := @Has.nil ([] : Heap)
  refine W.seq (W.region ?_)
  refine WOps.run dr1 [(2, .bool false)] (by kernel_rfl) ?_
  refine WOps.e0 (Th_n (W.seq (W.region ?_)))
  refine WOps.run dr1 [(3, .int .u8 c)] (by kernel_rfl) ?_
  by_cases h1 : c ≥ 97
  · refine o_v2 (.bool (decide ((c : Int) ≥ (97 : Int)))) (.bool true) (congrArg AV.bool (decide_eq_true (h1))) (by kernel_rfl) ?_
    refine WOps.run dr2 [(5, .bool true), (6, .int .u8 c)] (by kernel_rfl) ?_
    by_cases h2 : c ≤ 122
    · refine o_v2 (.bool (decide ((c : Int) ≤ (122 : Int)))) (.bool true) (congrArg AV.bool (decide_eq_true (h2))) (by kernel_rfl) ?_
      refine WOps.run (drx dr4) [(8, .bool true), (9, .bool true), (10, .undef), (11, .undef), (12, .undef), (13, .undef), (14, .undef), (15, .undef), (16, .bool true), (17, .bool true), (18, .undef), (19, .undef), (20, .bool true), (2, .bool true)] (by kernel_rfl) ?_
      refine WOps.e0 (Th_n (W.ret ?_))
      exact ret_t (r' := .bool true) (⟨true, rfl, by unfold isLet; simp; omega⟩) (.inr rfl) rfl (by kernel_rfl) (vflat rfl)
    · refine o_v2 (.bool (decide ((c : Int) ≤ (122 : Int)))) (.bool false) (congrArg AV.bool (decide_eq_false (h2))) (by kernel_rfl) ?_
      refine WOps.run dr3 [(8, .bool false), (9, .bool false), (10, .int .u8 c)] (by kernel_rfl) ?_
      refine o_v2 (.bool (decide ((c : Int) ≥ (65 : Int)))) (.bool true) (congrArg AV.bool (decide_eq_true (by omega))) (by kernel_rfl) ?_
      refine WOps.run dr2 [(12, .bool true), (13, .int .u8 c)] (by kernel_rfl) ?_
      refine o_v2 (.bool (decide ((c : Int) ≤ (90 : Int)))) (.bool false) (congrArg AV.bool (decide_eq_false (by omega))) (by kernel_rfl) ?_
      refine WOps.run dr4 [(15, .bool false), (16, .bool false), (17, .bool false), (18, .int .u8 c)] (by kernel_rfl) ?_
      refine o_v2 (.bool (((c : Int) == (95 : Int)))) (.bool false) (congrArg AV.bool (beq_eq_false_iff_ne.2 (by omega))) (by kernel_rfl) ?_
      refine WOps.run dr2 [(20, .bool false), (2, .bool false)] (by kernel_rfl) ?_
      refine WOps.e0 (Th_n (W.ret ?_))
      exact ret_t (r' := .bool false) (⟨false, rfl, by unfold isLet; simp; omega⟩) (.inr rfl) rfl (by kernel_rfl) (vflat rfl)
  · refine o_v2 (.bool (decide ((c : Int) ≥ (97 : Int)))) (.bool false) (congrArg AV.bool (decide_eq_false (h1))) (by kernel_rfl) ?_
    refine WOps.run dr6 [(5, .bool false), (6, .undef), (7, .undef), (8, .bool false), (9, .bool false), (10, .int .u8 c)] (by kernel_rfl) ?_
    by_cases h3 : c ≥ 65
    · refine o_v2 (.bool (decide ((c : Int) ≥ (65 : Int)))) (.bool true) (congrArg AV.bool (decide_eq_true (h3))) (by kernel_rfl) ?_
      refine WOps.run dr2 [(12, .bool true), (13, .int .u8 c)] (by kernel_rfl) ?_
      by_cases h4 : c ≤ 90
      · refine o_v2 (.bool (decide ((c : Int) ≤ (90 : Int)))) (.bool true) (congrArg AV.bool (decide_eq_true (h4))) (by kernel_rfl) ?_
        refine WOps.run dr7 [(15, .bool true), (16, .bool true), (17, .bool true), (18, .undef), (19, .undef), (20, .bool true), (2, .bool true)] (by kernel_rfl) ?_
        refine WOps.e0 (Th_n (W.ret ?_))
        exact ret_t (r' := .bool true) (⟨true, rfl, by unfold isLet; simp; omega⟩) (.inr rfl) rfl (by kernel_rfl) (vflat rfl)
      · refine o_v2 (.bool (decide ((c : Int) ≤ (90 : Int)))) (.bool false) (congrArg AV.bool (decide_eq_false (h4))) (by kernel_rfl) ?_
        refine WOps.run dr4 [(15, .bool false), (16, .bool false), (17, .bool false), (18, .int .u8 c)] (by kernel_rfl) ?_
        by_cases h5 : c = 95
        · refine o_v2 (.bool (((c : Int) == (95 : Int)))) (.bool true) (congrArg AV.bool (beq_iff_eq.2 (h5))) (by kernel_rfl) ?_
          refine WOps.run dr2 [(20, .bool true), (2, .bool true)] (by kernel_rfl) ?_
          refine WOps.e0 (Th_n (W.ret ?_))
          exact ret_t (r' := .bool true) (⟨true, rfl, by unfold isLet; simp; omega⟩) (.inr rfl) rfl (by kernel_rfl) (vflat rfl)
        · refine o_v2 (.bool (((c : Int) == (95 : Int)))) (.bool false) (congrArg AV.bool (beq_eq_false_iff_ne.2 (h5))) (by kernel_rfl) ?_
          refine WOps.run dr2 [(20, .bool false), (2, .bool false)] (by kernel_rfl) ?_
          refine WOps.e0 (Th_n (W.ret ?_))
          exact ret_t (r' := .bool false) (⟨false, rfl, by unfold isLet; simp; omega⟩) (.inr rfl) rfl (by kernel_rfl) (vflat rfl)
    · refine o_v2 (.bool (decide ((c : Int) ≥ (65 : Int)))) (.bool false) (congrArg AV.bool (decide_eq_false (h3))) (by kernel_rfl) ?_
      refine WOps.run dr7 [(12, .bool false), (13, .undef), (14, .undef), (15, .bool false), (16, .bool false), (17, .bool false), (18, .int .u8 c)] (by kernel_rfl) ?_
      refine o_v2 (.bool (((c : Int) == (95 : Int)))) (.bool false) (congrArg AV.bool (beq_eq_false_iff_ne.2 (by omega))) (by kernel_rfl) ?_
      refine WOps.run dr2 [(20, .bool false), (2, .bool false)] (by kernel_rfl) ?_
      refine WOps.e0 (Th_n (W.ret ?_))
      exact ret_t (r' := .bool false) (⟨false, rfl, by unfold isLet; simp; omega⟩) (.inr rfl) rfl (by kernel_rfl) (vflat rfl)

theorem Has_con (l : AV) (ln : Nat) (s : ByteArray) (hl : LS 1 IsS l ln) (hn : ln ≤ 9223372036854775807) : Con 154 [l, .str s] (Sp1 154 [l, .str s]) := by
  have f_l := hl.flat
  have hnl := names_len hl
  refine con_ret (Sp := Sp1) Tryz.func154 rfl ?_
  show W (ES Sp1) _ _ ⟨[l, .str s] ++ List.replicate 16 .undef, []⟩
  have hh2 := @Has.nil ([] : Heap)
  refine W.seq (W.region ?_)
  refine WOps.run dr1 [(4, .bool false)] (by kernel_rfl) ?_
  refine WOps.e0 (Th_n (W.seq (W.seq (W.region ?_))))
  refine WOps.run dr1 [(6, l)] (by kernel_rfl) ?_
  refine o_vb (.int .i64 (ln : Nat)) (hl.len P48 _) (by kernel_rfl) ?_
  refine WOps.run dr1 [(8, .int .i64 0)] (by kernel_rfl) ?_
  refine WOps.e0 (Th_n (W.blk ?_))
  refine W.lp (fun T u T1 H1 => ∃ (t4 t5 t9 t10 t11 t12 t13 t14 t15 t16 t17 : AV) (i : Nat), ups T [(4, t4), (5, t5), (8, .int .i64 (i : Nat)), (9, t9), (10, t10), (11, t11), (12, t12), (13, t13), (14, t14), (15, t15), (16, t16), (17, t17)] = T1 ∧ Has H1 [] ∧ i + u = ln ∧ ∀ (j : Nat) t, j < i → (namesOf l)[j]? = some t → t.toList ≠ s.toList) (ln) ⟨.bool false, .undef, .undef, .undef, .undef, .undef, .undef, .undef, .undef, .undef, .undef, 0, by kernel_rfl, hh2.pick [] (by decide), Nat.zero_add _, fun j t hj => by omega⟩ ?_
  rintro u _ H3 ⟨t4, t5, t9, t10, t11, t12, t13, t14, t15, t16, t17, i, rfl, hh4, hi, hall⟩
  refine W.seq (W.region ?_)
  by_cases hlt : i < ln
  · refine o_v2 (.bool (decide (((i : Nat) : Int) < ((ln : Nat) : Int)))) (.bool true) (congrArg AV.bool (decide_eq_true (by omega))) (by kernel_rfl) ?_
    refine WOps.e0 (Th_n (W.seq (W.condT (by kernel_rfl) (W.skip (Th_n (W.seq (W.blk (W.seq (W.region ?_)))))))))
    refine WOps.run dr2 [(10, .int .i64 (i : Nat)), (5, .int .i64 (i : Nat))] (by kernel_rfl) ?_
    refine WOps.e0 (Th_n (W.seq (W.region ?_)))
    refine WOps.run dr2 [(11, l), (12, .int .i64 (i : Nat))] (by kernel_rfl) ?_
    obtain ⟨pp, t, hpp, hld, ht⟩ := getName hl hlt
    refine o_vk (pp) (hpp) (by kernel_rfl) ?_
    refine o_vk (.str t) ((hld) H3) (by kernel_rfl) ?_
    refine WOps.run dr1 [(15, .str s)] (by kernel_rfl) ?_
    by_cases he : t.toList = s.toList
    · refine o_v2 (.bool ((t.toList == s.toList))) (.bool true) (congrArg AV.bool (beq_iff_eq.2 (he))) (by kernel_rfl) ?_
      refine WOps.e0 (Th_n (W.condT (by kernel_rfl) (W.seq (W.region ?_))))
      refine WOps.run dr1 [(4, .bool true)] (by kernel_rfl) ?_
      refine WOps.e0 (Th_n (W.ret (Bk_r (Th_r (Th_r (Bk_r (Th_r ?_)))))))
      exact ret_t (r' := .bool true) (⟨true, rfl, fun _ => ⟨i, t, ht, he⟩, fun _ => rfl⟩) (.inr rfl) rfl (by kernel_rfl) (vflat rfl)
    · refine o_v2 (.bool ((t.toList == s.toList))) (.bool false) (congrArg AV.bool (beq_eq_false_iff_ne.2 (he))) (by kernel_rfl) ?_
      refine WOps.e0 (Th_n (W.condF (by kernel_rfl) (W.skip (Bk_n (Th_n (W.region ?_))))))
      refine o_v2 (.int .i64 (IntKind.i64.wrap (((i : Nat) : Int) + (1 : Int)))) (.int .i64 (((i + 1 : Nat) : Int))) (congrArg (AV.int .i64) (by rw [wrapN] <;> omega)) (by kernel_rfl) ?_
      refine WOps.run dr1 [(8, .int .i64 ((i + 1 : Nat) : Int))] (by kernel_rfl) ?_
      refine WOps.e0 (Th_n ?_)
      exact ⟨u - 1, by omega, t4, .int .i64 (i : Nat), .bool true, .int .i64 (i : Nat), l, .int .i64 (i : Nat), pp, .str t, .str s, .bool false, .int .i64 ((i + 1 : Nat) : Int), i + 1, by kernel_rfl, hh4.pick [] (by decide), by omega, fun j t' hj hx => (Nat.lt_succ_iff_lt_or_eq.1 hj).elim (fun h => hall j t' h hx) fun h => by rw [h, ht] at hx; simp only [Option.some.injEq] at hx; rw [← hx]; exact he⟩
  · refine o_v2 (.bool (decide (((i : Nat) : Int) < ((ln : Nat) : Int)))) (.bool false) (congrArg AV.bool (decide_eq_false (by omega))) (by kernel_rfl) ?_
    refine WOps.e0 (Th_n (W.seq (W.condF (by kernel_rfl) (W.exit (Th_e (Th_e (Bk_s (Th_n (W.seq (W.region ?_))))))))))
    refine WOps.run dr1 [(4, .bool false)] (by kernel_rfl) ?_
    refine WOps.e0 (Th_n (W.ret ?_))
    exact ret_t (r' := .bool false) (⟨false, rfl, fun h => by simp at h, fun ⟨j, t, h1, h2⟩ => absurd h2 (hall j t (by have := (List.getElem?_eq_some_iff.1 h1).1; rw [← namesOf, hnl] at this; omega) h1)⟩) (.inr rfl) rfl (by kernel_rfl) (vflat rfl)

theorem Index_con (l : AV) (ln : Nat) (s : ByteArray) (hl : LS 1 IsS l ln) (hn : ln ≤ 9223372036854775807) : Con 216 [l, .str s] (Sp1 216 [l, .str s]) := by
  have f_l := hl.flat
  have hnl := names_len hl
  refine con_ret (Sp := Sp1) Tryz.func216 rfl ?_
  show W (ES Sp1) _ _ ⟨[l, .str s] ++ List.replicate 17 .undef, []⟩
  have hh5 := @Has.nil ([] : Heap)
  refine W.seq (W.region ?_)
  refine WOps.run dr1 [(4, .int .i64 0)] (by kernel_rfl) ?_
  refine WOps.e0 (Th_n (W.seq (W.seq (W.region ?_))))
  refine WOps.run dr1 [(6, l)] (by kernel_rfl) ?_
  refine o_vb (.int .i64 (ln : Nat)) (hl.len P48 _) (by kernel_rfl) ?_
  refine WOps.run dr1 [(8, .int .i64 0)] (by kernel_rfl) ?_
  refine WOps.e0 (Th_n (W.blk ?_))
  refine W.lp (fun T u T1 H1 => ∃ (t4 t5 t9 t10 t11 t12 t13 t14 t15 t16 t17 t18 : AV) (i : Nat), ups T [(4, t4), (5, t5), (8, .int .i64 (i : Nat)), (9, t9), (10, t10), (11, t11), (12, t12), (13, t13), (14, t14), (15, t15), (16, t16), (17, t17), (18, t18)] = T1 ∧ Has H1 [] ∧ i + u = ln ∧ ∀ (j : Nat) t, j < i → (namesOf l)[j]? = some t → t.toList ≠ s.toList) (ln) ⟨.int .i64 0, .undef, .undef, .undef, .undef, .undef, .undef, .undef, .undef, .undef, .undef, .undef, 0, by kernel_rfl, hh5.pick [] (by decide), Nat.zero_add _, fun j t hj => by omega⟩ ?_
  rintro u _ H6 ⟨t4, t5, t9, t10, t11, t12, t13, t14, t15, t16, t17, t18, i, rfl, hh7, hi, hall⟩
  refine W.seq (W.region ?_)
  by_cases hlt : i < ln
  · refine o_v2 (.bool (decide (((i : Nat) : Int) < ((ln : Nat) : Int)))) (.bool true) (congrArg AV.bool (decide_eq_true (by omega))) (by kernel_rfl) ?_
    refine WOps.e0 (Th_n (W.seq (W.condT (by kernel_rfl) (W.skip (Th_n (W.seq (W.blk (W.seq (W.region ?_)))))))))
    refine WOps.run dr2 [(10, .int .i64 (i : Nat)), (5, .int .i64 (i : Nat))] (by kernel_rfl) ?_
    refine WOps.e0 (Th_n (W.seq (W.region ?_)))
    refine WOps.run dr3 [(11, .str s), (12, l), (13, .int .i64 (i : Nat))] (by kernel_rfl) ?_
    obtain ⟨pp, t, hpp, hld, ht⟩ := getName hl hlt
    refine o_vk (pp) (hpp) (by kernel_rfl) ?_
    refine o_vk (.str t) ((hld) H6) (by kernel_rfl) ?_
    by_cases he : s.toList = t.toList
    · refine o_v2 (.bool ((s.toList == t.toList))) (.bool true) (congrArg AV.bool (beq_iff_eq.2 (he))) (by kernel_rfl) ?_
      refine WOps.e0 (Th_n (W.condT (by kernel_rfl) (W.seq (W.region ?_))))
      refine WOps.run dr2 [(17, .int .i64 (i : Nat)), (4, .int .i64 (i : Nat))] (by kernel_rfl) ?_
      refine WOps.e0 (Th_n (W.ret (Bk_r (Th_r (Th_r (Bk_r (Th_r ?_)))))))
      exact ret_t (r' := .int .i64 (i : Nat)) (⟨_, rfl, fun _ => ⟨i, t, ht, he.symm⟩, fun _ => by omega⟩) (.inr rfl) rfl (by kernel_rfl) (vflat rfl)
    · refine o_v2 (.bool ((s.toList == t.toList))) (.bool false) (congrArg AV.bool (beq_eq_false_iff_ne.2 (he))) (by kernel_rfl) ?_
      refine WOps.e0 (Th_n (W.condF (by kernel_rfl) (W.skip (Bk_n (Th_n (W.region ?_))))))
      refine o_v2 (.int .i64 (IntKind.i64.wrap (((i : Nat) : Int) + (1 : Int)))) (.int .i64 (((i + 1 : Nat) : Int))) (congrArg (AV.int .i64) (by rw [wrapN] <;> omega)) (by kernel_rfl) ?_
      refine WOps.run dr1 [(8, .int .i64 ((i + 1 : Nat) : Int))] (by kernel_rfl) ?_
      refine WOps.e0 (Th_n ?_)
      exact ⟨u - 1, by omega, t4, .int .i64 (i : Nat), .bool true, .int .i64 (i : Nat), .str s, l, .int .i64 (i : Nat), pp, .str t, .bool false, t17, .int .i64 ((i + 1 : Nat) : Int), i + 1, by kernel_rfl, hh7.pick [] (by decide), by omega, fun j t' hj hx => (Nat.lt_succ_iff_lt_or_eq.1 hj).elim (fun h => hall j t' h hx) fun h => by rw [h, ht] at hx; simp only [Option.some.injEq] at hx; rw [← hx]; exact fun e => he e.symm⟩
  · refine o_v2 (.bool (decide (((i : Nat) : Int) < ((ln : Nat) : Int)))) (.bool false) (congrArg AV.bool (decide_eq_false (by omega))) (by kernel_rfl) ?_
    refine WOps.e0 (Th_n (W.seq (W.condF (by kernel_rfl) (W.exit (Th_e (Th_e (Bk_s (Th_n (W.seq (W.region ?_))))))))))
    refine WOps.run dr1 [(4, .int .i64 (-1))] (by kernel_rfl) ?_
    refine WOps.e0 (Th_n (W.ret ?_))
    exact ret_t (r' := .int .i64 (-1)) (⟨-1, rfl, fun h => by omega, fun ⟨j, t, h1, h2⟩ => absurd h2 (hall j t (by have := (List.getElem?_eq_some_iff.1 h1).1; rw [← namesOf, hnl] at this; omega) h1)⟩) (.inr rfl) rfl (by kernel_rfl) (vflat rfl)

theorem Contains_con (l : AV) (ln : Nat) (s : ByteArray) (hl : LS 1 IsS l ln) (hn : ln ≤ 9223372036854775807) : Con 157 [l, .str s] (Sp1 157 [l, .str s]) := by
  have f_l := hl.flat
  refine con_ret (Sp := Sp1) Tryz.func157 rfl ?_
  show W (ES Sp1) _ _ ⟨[l, .str s] ++ List.replicate 7 .undef, []⟩
  have hh8 := @Has.nil ([] : Heap)
  refine W.seq (W.region ?_)
  refine WOps.run dr1 [(4, .bool false)] (by kernel_rfl) ?_
  refine WOps.e0 (Th_n (W.seq (W.region ?_)))
  refine WOps.run dr2 [(5, l), (6, .str s)] (by kernel_rfl) ?_
  refine o_call (ys := [l, .str s]) (vflats (fc f_l (fc rfl fn0))) (Index_con l ln s hl hn) rfl (by kernel_rfl) fun z Oz hz => ?_
  obtain ⟨k, rfl, hz⟩ := hz
  by_cases hk : k ≥ 0
  · refine o_v2 (.bool (decide ((k : Int) ≥ (0 : Int)))) (.bool true) (congrArg AV.bool (decide_eq_true (hk))) (by kernel_rfl) ?_
    refine WOps.run dr1 [(4, .bool true)] (by kernel_rfl) ?_
    refine WOps.e0 (Th_n (W.ret ?_))
    exact ret_t (r' := .bool true) (⟨true, rfl, fun _ => hz.1 hk, fun _ => rfl⟩) (.inr rfl) rfl (by kernel_rfl) (vflat rfl)
  · refine o_v2 (.bool (decide ((k : Int) ≥ (0 : Int)))) (.bool false) (congrArg AV.bool (decide_eq_false (hk))) (by kernel_rfl) ?_
    refine WOps.run dr1 [(4, .bool false)] (by kernel_rfl) ?_
    refine WOps.e0 (Th_n (W.ret ?_))
    exact ret_t (r' := .bool false) (⟨false, rfl, fun h => by simp at h, fun h => absurd (hz.2 h) hk⟩) (.inr rfl) rfl (by kernel_rfl) (vflat rfl)

theorem last_con (l : AV) (ln : Nat) (s : ByteArray) (hl : LS 1 IsS l ln) (hn : ln ≤ 9223372036854775807) : Con 93 [l, .str s] (Sp1 93 [l, .str s]) := by
  have f_l := hl.flat
  have hnl := names_len hl
  refine con_ret (Sp := Sp1) Tryz.func93 rfl ?_
  show W (ES Sp1) _ _ ⟨[l, .str s] ++ List.replicate 18 .undef, []⟩
  have hh9 := @Has.nil ([] : Heap)
  refine W.seq (W.region ?_)
  refine WOps.run dr1 [(4, .int .i64 0)] (by kernel_rfl) ?_
  refine WOps.e0 (Th_n (W.seq (W.seq (W.region ?_))))
  refine WOps.run dr1 [(6, l)] (by kernel_rfl) ?_
  refine o_vb (.int .i64 (ln : Nat)) (hl.len P48 _) (by kernel_rfl) ?_
  refine o_v2 (.int .i64 (IntKind.i64.wrap (((ln : Nat) : Int) - (1 : Int)))) (.int .i64 ((ln : Int) - 1)) (congrArg (AV.int .i64) (by rw [wrapN] <;> omega)) (by kernel_rfl) ?_
  refine WOps.run dr1 [(5, .int .i64 ((ln : Int) - 1))] (by kernel_rfl) ?_
  refine WOps.e0 (Th_n (W.blk ?_))
  refine W.lp (fun T u T1 H1 => ∃ (t4 t9 t10 t11 t12 t13 t14 t15 t16 t17 t18 t19 : AV) (i : Int), ups T [(4, t4), (5, .int .i64 i), (9, t9), (10, t10), (11, t11), (12, t12), (13, t13), (14, t14), (15, t15), (16, t16), (17, t17), (18, t18), (19, t19)] = T1 ∧ Has H1 [] ∧ i = (u : Int) - 1 ∧ u ≤ ln ∧ ∀ (j : Nat) t, u ≤ j → (namesOf l)[j]? = some t → t.toList ≠ s.toList) (ln) ⟨.int .i64 0, .undef, .undef, .undef, .undef, .undef, .undef, .undef, .undef, .undef, .undef, .undef, (ln : Int) - 1, by kernel_rfl, hh9.pick [] (by decide), rfl, Nat.le_refl _, fun j t hj hx => by have := (List.getElem?_eq_some_iff.1 hx).1; omega⟩ ?_
  rintro u _ H10 ⟨t4, t9, t10, t11, t12, t13, t14, t15, t16, t17, t18, t19, i, rfl, hh11, hi, hu, hall⟩
  refine W.seq (W.seq (W.region ?_))
  refine WOps.run dr1 [(9, .int .i64 i)] (by kernel_rfl) ?_
  by_cases hu0 : u = 0
  · refine o_v2 (.bool (decide ((i : Int) ≥ (0 : Int)))) (.bool false) (congrArg AV.bool (decide_eq_false (by omega))) (by kernel_rfl) ?_
    refine WOps.e0 (Th_n (W.condF (by kernel_rfl) (W.exit (Th_e (Th_e (Bk_s (Th_n (W.seq (W.region ?_)))))))))
    refine WOps.run dr1 [(4, .int .i64 (-1))] (by kernel_rfl) ?_
    refine WOps.e0 (Th_n (W.ret ?_))
    exact ret_t (r' := .int .i64 (-1)) (⟨-1, rfl, fun h => by omega, fun ⟨j, t, h1, h2⟩ => absurd h2 (hall j t (by omega) h1)⟩) (.inr rfl) rfl (by kernel_rfl) (vflat rfl)
  · refine o_v2 (.bool (decide ((i : Int) ≥ (0 : Int)))) (.bool true) (congrArg AV.bool (decide_eq_true (by omega))) (by kernel_rfl) ?_
    refine WOps.e0 (Th_n (W.condT (by kernel_rfl) (W.skip (Th_n (W.seq (W.blk (W.seq (W.region ?_))))))))
    refine WOps.run dr2 [(13, l), (14, .int .i64 i)] (by kernel_rfl) ?_
    obtain ⟨v, rfl⟩ : ∃ v : Nat, i = (v : Nat) := ⟨u - 1, by omega⟩
    obtain ⟨pp, t, hpp, hld, ht⟩ := getName hl (show v < ln by omega)
    refine o_vk (pp) (hpp) (by kernel_rfl) ?_
    refine o_vk (.str t) ((hld) H10) (by kernel_rfl) ?_
    refine WOps.run dr1 [(17, .str s)] (by kernel_rfl) ?_
    by_cases he : t.toList = s.toList
    · refine o_v2 (.bool ((t.toList == s.toList))) (.bool true) (congrArg AV.bool (beq_iff_eq.2 (he))) (by kernel_rfl) ?_
      refine WOps.e0 (Th_n (W.condT (by kernel_rfl) (W.seq (W.region ?_))))
      refine WOps.run dr2 [(19, .int .i64 (v : Nat)), (4, .int .i64 (v : Nat))] (by kernel_rfl) ?_
      refine WOps.e0 (Th_n (W.ret (Bk_r (Th_r (Th_r (Bk_r (Th_r ?_)))))))
      exact ret_t (r' := .int .i64 (v : Nat)) (⟨_, rfl, fun _ => ⟨v, t, ht, he⟩, fun _ => by omega⟩) (.inr rfl) rfl (by kernel_rfl) (vflat rfl)
    · refine o_v2 (.bool ((t.toList == s.toList))) (.bool false) (congrArg AV.bool (beq_eq_false_iff_ne.2 (he))) (by kernel_rfl) ?_
      refine WOps.e0 (Th_n (W.condF (by kernel_rfl) (W.skip (Bk_n (Th_n (W.region ?_))))))
      refine WOps.run dr1 [(11, .int .i64 (v : Nat))] (by kernel_rfl) ?_
      refine o_v2 (.int .i64 (IntKind.i64.wrap (((v : Nat) : Int) - (1 : Int)))) (.int .i64 (((v : Int) - 1))) (congrArg (AV.int .i64) (by rw [wrapN] <;> omega)) (by kernel_rfl) ?_
      refine WOps.run dr1 [(5, .int .i64 ((v : Int) - 1))] (by kernel_rfl) ?_
      refine WOps.e0 (Th_n ?_)
      exact ⟨u - 1, by omega, t4, .int .i64 (v : Nat), .bool true, .int .i64 (v : Nat), .int .i64 ((v : Int) - 1), l, .int .i64 (v : Nat), pp, .str t, .str s, .bool false, t19, (v : Int) - 1, by kernel_rfl, hh11.pick [] (by decide), by omega, by omega, fun j t' hj hx => (show u ≤ j ∨ j = v by omega).elim (fun h => hall j t' h hx) fun h => by rw [h, ht] at hx; simp only [Option.some.injEq] at hx; rw [← hx]; exact he⟩

theorem words_con : Con 155 [] (Sp1 155 []) := by
  refine con_ret (Sp := Sp1) Tryz.func155 rfl ?_
  show W (ES Sp1) _ _ ⟨[] ++ List.replicate 2 .undef, []⟩
  have hh12 := @Has.nil ([] : Heap)
  refine W.seq (W.region ?_)
  refine WOps.run dr1 [(0, .nilsl)] (by kernel_rfl) ?_
  refine WOps.e0 (Th_n (W.seq (W.region ?_)))
  refine o_bs hh12 [.str (ByteArray.mk #[116, 114, 117, 101]), .str (ByteArray.mk #[102, 97, 108, 115, 101]), .str (ByteArray.mk #[97, 110, 100]), .str (ByteArray.mk #[111, 114]), .str (ByteArray.mk #[110, 111, 116]), .str (ByteArray.mk #[105, 109, 112, 108, 105, 101, 115]), .str (ByteArray.mk #[105, 102, 102]), .str (ByteArray.mk #[102, 111, 114, 97, 108, 108]), .str (ByteArray.mk #[101, 120, 105, 115, 116, 115])] (ps := [(0, .str (ByteArray.mk #[116, 114, 117, 101])), (1, .str (ByteArray.mk #[102, 97, 108, 115, 101])), (2, .str (ByteArray.mk #[97, 110, 100])), (3, .str (ByteArray.mk #[111, 114])), (4, .str (ByteArray.mk #[110, 111, 116])), (5, .str (ByteArray.mk #[105, 109, 112, 108, 105, 101, 115])), (6, .str (ByteArray.mk #[105, 102, 102])), (7, .str (ByteArray.mk #[102, 111, 114, 97, 108, 108])), (8, .str (ByteArray.mk #[101, 120, 105, 115, 116, 115]))]) (qs := [(0, [.str (ByteArray.mk #[116, 114, 117, 101])]), (1, [.str (ByteArray.mk #[102, 97, 108, 115, 101])]), (2, [.str (ByteArray.mk #[97, 110, 100])]), (3, [.str (ByteArray.mk #[111, 114])]), (4, [.str (ByteArray.mk #[110, 111, 116])]), (5, [.str (ByteArray.mk #[105, 109, 112, 108, 105, 101, 115])]), (6, [.str (ByteArray.mk #[105, 102, 102])]), (7, [.str (ByteArray.mk #[102, 111, 114, 97, 108, 108])]), (8, [.str (ByteArray.mk #[101, 120, 105, 115, 116, 115])])]) (.c rfl (.c rfl (.c rfl (.c rfl (.c rfl (.c rfl (.c rfl (.c rfl (.c rfl .n))))))))) rfl rfl rfl rfl rfl (by kernel_rfl) fun q1 H13 hh14 => ?_
  refine WOps.run dr1 [(0, .sl q1 0 9 1 (some 9))] (by kernel_rfl) ?_
  refine WOps.e0 (Th_n (W.ret ?_))
  exact ret_t (r' := .lst ([.str (ByteArray.mk #[116, 114, 117, 101]), .str (ByteArray.mk #[102, 97, 108, 115, 101]), .str (ByteArray.mk #[97, 110, 100]), .str (ByteArray.mk #[111, 114]), .str (ByteArray.mk #[110, 111, 116]), .str (ByteArray.mk #[105, 109, 112, 108, 105, 101, 115]), .str (ByteArray.mk #[105, 102, 102]), .str (ByteArray.mk #[102, 111, 114, 97, 108, 108]), .str (ByteArray.mk #[101, 120, 105, 115, 116, 115])]) 9 (some 9)) (⟨some 9, rfl⟩) (.inr rfl) rfl (by kernel_rfl) (vsl (k := 0) (off := 0) (len := 9) (sz := 1) (cap := (some 9)) (cs := [.str (ByteArray.mk #[116, 114, 117, 101]), .str (ByteArray.mk #[102, 97, 108, 115, 101]), .str (ByteArray.mk #[97, 110, 100]), .str (ByteArray.mk #[111, 114]), .str (ByteArray.mk #[110, 111, 116]), .str (ByteArray.mk #[105, 109, 112, 108, 105, 101, 115]), .str (ByteArray.mk #[105, 102, 102]), .str (ByteArray.mk #[102, 111, 114, 97, 108, 108]), .str (ByteArray.mk #[101, 120, 105, 115, 116, 115])]) hh14 rfl (Nat.le_of_ble_eq_true rfl) (vflats rfl))

theorem kw_names (cap : Option Nat) : namesOf (.lst (kwords.map .str) 9 cap) = kwords := rfl
theorem kw_ls (cap : Option Nat) : LS 1 IsS (.lst (kwords.map .str) 9 cap) 9 := .inr ⟨_, cap, rfl, rfl, fun i hi => by
  have : i = 0 ∨ i = 1 ∨ i = 2 ∨ i = 3 ∨ i = 4 ∨ i = 5 ∨ i = 6 ∨ i = 7 ∨ i = 8 := by omega
  rcases this with rfl | rfl | rfl | rfl | rfl | rfl | rfl | rfl | rfl <;> exact ⟨_, rfl⟩⟩

theorem rValid_con (s : ByteArray) (hs : s.size ≤ 9223372036854775807) : Con 92 [.str s] (Sp1 92 [.str s]) := by
  refine con_ret (Sp := Sp1) Tryz.func92 rfl ?_
  show W (ES Sp1) _ _ ⟨[.str s] ++ List.replicate 59 .undef, []⟩
  have hh15 := @Has.nil ([] : Heap)
  refine W.seq (W.region ?_)
  refine WOps.run dr1 [(2, .bool false)] (by kernel_rfl) ?_
  refine WOps.e0 (Th_n (W.seq (W.seq (W.region ?_))))
  refine WOps.run dr1 [(6, .str s)] (by kernel_rfl) ?_
  refine o_vb (.int .i64 (s.size : Nat)) (rfl) (by kernel_rfl) ?_
  by_cases h1 : s.size < 1
  · refine o_v2 (.bool (decide (((s.size : Nat) : Int) < (1 : Int)))) (.bool true) (congrArg AV.bool (decide_eq_true (by omega))) (by kernel_rfl) ?_
    refine WOps.run (drx dr0) [(9, .bool true), (10, .undef), (11, .undef), (12, .undef), (13, .bool true), (14, .bool true), (15, .undef), (16, .undef), (17, .undef), (18, .bool true)] (by kernel_rfl) ?_
    refine WOps.e0 (Th_n (W.condT (by kernel_rfl) (W.seq (W.region ?_))))
    refine WOps.run dr1 [(2, .bool false)] (by kernel_rfl) ?_
    refine WOps.e0 (Th_n (W.ret (Th_r ?_)))
    exact ret_t (r' := .bool false) (⟨false, rfl, fun h => by simp at h, fun h => absurd h.1 (by omega)⟩) (.inr rfl) rfl (by kernel_rfl) (vflat rfl)
  · refine o_v2 (.bool (decide (((s.size : Nat) : Int) < (1 : Int)))) (.bool false) (congrArg AV.bool (decide_eq_false (by omega))) (by kernel_rfl) ?_
    refine WOps.run dr2 [(9, .bool false), (10, .str s)] (by kernel_rfl) ?_
    refine o_vb (.int .i64 (s.size : Nat)) (rfl) (by kernel_rfl) ?_
    by_cases h2 : s.size > 16
    · refine o_v2 (.bool (decide (((s.size : Nat) : Int) > (16 : Int)))) (.bool true) (congrArg AV.bool (decide_eq_true (by omega))) (by kernel_rfl) ?_
      refine WOps.run dr6 [(13, .bool true), (14, .bool true), (15, .undef), (16, .undef), (17, .undef), (18, .bool true)] (by kernel_rfl) ?_
      refine WOps.e0 (Th_n (W.condT (by kernel_rfl) (W.seq (W.region ?_))))
      refine WOps.run dr1 [(2, .bool false)] (by kernel_rfl) ?_
      refine WOps.e0 (Th_n (W.ret (Th_r ?_)))
      exact ret_t (r' := .bool false) (⟨false, rfl, fun h => by simp at h, fun h => absurd h.2.1 (by omega)⟩) (.inr rfl) rfl (by kernel_rfl) (vflat rfl)
    · refine o_v2 (.bool (decide (((s.size : Nat) : Int) > (16 : Int)))) (.bool false) (congrArg AV.bool (decide_eq_false (by omega))) (by kernel_rfl) ?_
      refine WOps.run dr2 [(13, .bool false), (14, .bool false)] (by kernel_rfl) ?_
      refine o_call (ys := []) (vflats rfl) (words_con) rfl (by kernel_rfl) fun w Ow hw => ?_
      obtain ⟨cap, rfl⟩ := hw
      refine WOps.run dr1 [(16, .str s)] (by kernel_rfl) ?_
      refine o_call (ys := [.lst (kwords.map .str) 9 cap, .str s]) (vflats rfl) (Has_con _ 9 s (kw_ls cap) (by omega)) rfl (by kernel_rfl) fun z Oz hz => ?_
      obtain ⟨c, rfl, hc⟩ := hz
      refine WOps.run dr1 [(18, .bool c)] (by kernel_rfl) ?_
      refine WOps.e0 (Th_n ?_)
      have hkw : c = true ↔ ∃ w ∈ kwords, s.toList = w.toList := by
        rw [hc]
        show (∃ (j : Nat) (t : ByteArray), (namesOf (.lst (kwords.map .str) 9 cap))[j]? = some t ∧ t.toList = s.toList) ↔ _
        rw [kw_names]
        exact ⟨fun ⟨j, t, h1, h2⟩ => ⟨t, List.mem_of_getElem? h1, h2.symm⟩, fun ⟨w, h1, h2⟩ => by obtain ⟨j, hj⟩ := List.mem_iff_getElem?.1 h1; exact ⟨j, w, hj, h2.symm⟩⟩
      cases c with
      | true =>
        refine W.condT (by kernel_rfl) (W.seq (W.region ?_))
        refine WOps.run dr1 [(2, .bool false)] (by kernel_rfl) ?_
        refine WOps.e0 (Th_n (W.ret (Th_r ?_)))
        exact ret_t (r' := .bool false) (⟨false, rfl, fun h => by simp at h, fun h => by obtain ⟨w, h3, h4⟩ := hkw.1 rfl; exact absurd h4 (h.2.2.1 w h3)⟩) (.inr rfl) rfl (by kernel_rfl) (vflat rfl)
      | false =>
        refine W.condF (by kernel_rfl) (W.skip (Th_n (W.seq (W.seq (W.region ?_)))))
        refine WOps.run dr1 [(3, .int .i64 0)] (by kernel_rfl) ?_
        refine WOps.e0 (Th_n (W.blk ?_))
        refine W.lp (fun T u T1 H1 => ∃ (t2 t4 t5 t19 t20 t21 t22 t23 t24 t25 t26 t27 t28 t29 t30 t31 t32 t33 t34 t35 t36 t37 t38 t39 t40 t41 t42 t43 t44 t45 t46 t47 t48 t49 t50 t51 t52 t53 t54 t55 t56 t57 t58 t59 : AV) (i : Nat), ups T [(2, t2), (3, .int .i64 (i : Nat)), (4, t4), (5, t5), (19, t19), (20, t20), (21, t21), (22, t22), (23, t23), (24, t24), (25, t25), (26, t26), (27, t27), (28, t28), (29, t29), (30, t30), (31, t31), (32, t32), (33, t33), (34, t34), (35, t35), (36, t36), (37, t37), (38, t38), (39, t39), (40, t40), (41, t41), (42, t42), (43, t43), (44, t44), (45, t45), (46, t46), (47, t47), (48, t48), (49, t49), (50, t50), (51, t51), (52, t52), (53, t53), (54, t54), (55, t55), (56, t56), (57, t57), (58, t58), (59, t59)] = T1 ∧ Has H1 [] ∧ i + u = s.size ∧ ∀ j, j < i → isLet (byteAt s j) ∨ j ≠ 0 ∧ isDig (byteAt s j)) (s.size) ⟨.bool false, .undef, .undef, .undef, .undef, .undef, .undef, .undef, .undef, .undef, .undef, .undef, .undef, .undef, .undef, .undef, .undef, .undef, .undef, .undef, .undef, .undef, .undef, .undef, .undef, .undef, .undef, .undef, .undef, .undef, .undef, .undef, .undef, .undef, .undef, .undef, .undef, .undef, .undef, .undef, .undef, .undef, .undef, .undef, 0, by kernel_rfl, hh15.pick [] (by decide), Nat.zero_add _, fun j hj => by omega⟩ ?_
        rintro u _ H16 ⟨t2, t4, t5, t19, t20, t21, t22, t23, t24, t25, t26, t27, t28, t29, t30, t31, t32, t33, t34, t35, t36, t37, t38, t39, t40, t41, t42, t43, t44, t45, t46, t47, t48, t49, t50, t51, t52, t53, t54, t55, t56, t57, t58, t59, i, rfl, hh17, hi, hall⟩
        refine W.seq (W.seq (W.region ?_))
        refine WOps.run dr2 [(19, .int .i64 (i : Nat)), (20, .str s)] (by kernel_rfl) ?_
        refine o_vb (.int .i64 (s.size : Nat)) (rfl) (by kernel_rfl) ?_
        by_cases hlt : i < s.size
        · refine o_v2 (.bool (decide (((i : Nat) : Int) < ((s.size : Nat) : Int)))) (.bool true) (congrArg AV.bool (decide_eq_true (by omega))) (by kernel_rfl) ?_
          refine WOps.e0 (Th_n (W.condT (by kernel_rfl) (W.skip (Th_n (W.seq (W.blk (W.seq (W.region ?_))))))))
          refine WOps.run dr2 [(25, .str s), (26, .int .i64 (i : Nat))] (by kernel_rfl) ?_
          refine o_vk (.int .u8 (byteAt s i)) (idx9 hlt) (by kernel_rfl) ?_
          refine WOps.run dr1 [(4, .int .u8 (byteAt s i))] (by kernel_rfl) ?_
          refine WOps.e0 (Th_n ?_)
          refine W.cut (fun T T1 H1 => ∃ (t28 t29 t30 t31 t32 t33 t34 t35 t36 t37 t38 t39 t40 t41 t42 t43 t44 t45 : AV) (b : Bool), ups T [(5, .bool b), (28, t28), (29, t29), (30, t30), (31, t31), (32, t32), (33, t33), (34, t34), (35, t35), (36, t36), (37, t37), (38, t38), (39, t39), (40, t40), (41, t41), (42, t42), (43, t43), (44, t44), (45, t45)] = T1 ∧ Has H1 [] ∧ (b = true ↔ isLet (byteAt s i))) ?_ ?_
          · rintro _ H18 ⟨t28, t29, t30, t31, t32, t33, t34, t35, t36, t37, t38, t39, t40, t41, t42, t43, t44, t45, b, rfl, hh19, hb⟩
            refine W.seq (W.region ?_)
            refine WOps.run dr1 [(46, .bool b)] (by kernel_rfl) ?_
            cases b with
            | true =>
              refine WOps.run (drx dr3) [(47, .bool false), (48, .bool false), (49, .undef), (50, .undef), (51, .undef), (52, .undef), (53, .undef), (54, .undef), (55, .undef), (56, .undef), (57, .undef), (58, .undef), (59, .bool false)] (by kernel_rfl) ?_
              refine WOps.e0 (Th_n (W.condF (by kernel_rfl) (W.skip (Bk_n (Th_n (W.region ?_))))))
              refine WOps.run dr1 [(23, .int .i64 (i : Nat))] (by kernel_rfl) ?_
              refine o_v2 (.int .i64 (IntKind.i64.wrap (((i : Nat) : Int) + (1 : Int)))) (.int .i64 (((i + 1 : Nat) : Int))) (congrArg (AV.int .i64) (by rw [wrapN] <;> omega)) (by kernel_rfl) ?_
              refine WOps.run dr1 [(3, .int .i64 ((i + 1 : Nat) : Int))] (by kernel_rfl) ?_
              refine WOps.e0 (Th_n ?_)
              exact ⟨u - 1, by omega, t2, .int .u8 (byteAt s i), .bool true, .int .i64 (i : Nat), .str s, .int .i64 (s.size : Nat), .bool true, .int .i64 (i : Nat), .int .i64 ((i + 1 : Nat) : Int), .str s, .int .i64 (i : Nat), .int .u8 (byteAt s i), t28, t29, t30, t31, t32, t33, t34, t35, t36, t37, t38, t39, t40, t41, t42, t43, t44, t45, .bool true, .bool false, .bool false, .undef, .undef, .undef, .undef, .undef, .undef, .undef, .undef, .undef, .undef, .bool false, i + 1, by kernel_rfl, hh19.pick [] (by decide), by omega, fun j hj => (Nat.lt_succ_iff_lt_or_eq.1 hj).elim (fun h => hall j h) fun h => by subst h; exact .inl (hb.1 rfl)⟩
            | false =>
              refine WOps.run dr3 [(47, .bool true), (48, .bool true), (49, .int .i64 (i : Nat))] (by kernel_rfl) ?_
              have hnl : ¬ isLet (byteAt s i) := fun h => by have := hb.2 h; simp at this
              by_cases hi0 : i = 0
              · refine o_v2 (.bool ((((i : Nat) : Int) == (0 : Int)))) (.bool true) (congrArg AV.bool (beq_iff_eq.2 (by omega))) (by kernel_rfl) ?_
                refine WOps.run dr9 [(51, .bool true), (52, .undef), (53, .undef), (54, .bool true), (55, .bool true), (56, .undef), (57, .undef), (58, .bool true), (59, .bool true)] (by kernel_rfl) ?_
                refine WOps.e0 (Th_n (W.condT (by kernel_rfl) (W.seq (W.region ?_))))
                refine WOps.run dr1 [(2, .bool false)] (by kernel_rfl) ?_
                refine WOps.e0 (Th_n (W.ret (Bk_r (Th_r (Th_r (Bk_r (Th_r ?_)))))))
                exact ret_t (r' := .bool false) (⟨false, rfl, fun h => by simp at h, fun h => by have := h.2.2.2 i hlt; rcases this with h | h; exact absurd h hnl; exact absurd hi0 h.1⟩) (.inr rfl) rfl (by kernel_rfl) (vflat rfl)
              · refine o_v2 (.bool ((((i : Nat) : Int) == (0 : Int)))) (.bool false) (congrArg AV.bool (beq_eq_false_iff_ne.2 (by omega))) (by kernel_rfl) ?_
                refine WOps.run dr2 [(51, .bool false), (52, .int .u8 (byteAt s i))] (by kernel_rfl) ?_
                by_cases hd1 : byteAt s i < 48
                · refine o_v2 (.bool (decide (((byteAt s i) : Int) < (48 : Int)))) (.bool true) (congrArg AV.bool (decide_eq_true (hd1))) (by kernel_rfl) ?_
                  refine WOps.run dr6 [(54, .bool true), (55, .bool true), (56, .undef), (57, .undef), (58, .bool true), (59, .bool true)] (by kernel_rfl) ?_
                  refine WOps.e0 (Th_n (W.condT (by kernel_rfl) (W.seq (W.region ?_))))
                  refine WOps.run dr1 [(2, .bool false)] (by kernel_rfl) ?_
                  refine WOps.e0 (Th_n (W.ret (Bk_r (Th_r (Th_r (Bk_r (Th_r ?_)))))))
                  exact ret_t (r' := .bool false) (⟨false, rfl, fun h => by simp at h, fun h => by have := h.2.2.2 i hlt; unfold isDig at this; rcases this with h | h; exact absurd h hnl; omega⟩) (.inr rfl) rfl (by kernel_rfl) (vflat rfl)
                · refine o_v2 (.bool (decide (((byteAt s i) : Int) < (48 : Int)))) (.bool false) (congrArg AV.bool (decide_eq_false (hd1))) (by kernel_rfl) ?_
                  refine WOps.run dr3 [(54, .bool false), (55, .bool false), (56, .int .u8 (byteAt s i))] (by kernel_rfl) ?_
                  by_cases hd2 : byteAt s i > 57
                  · refine o_v2 (.bool (decide (((byteAt s i) : Int) > (57 : Int)))) (.bool true) (congrArg AV.bool (decide_eq_true (hd2))) (by kernel_rfl) ?_
                    refine WOps.run dr2 [(58, .bool true), (59, .bool true)] (by kernel_rfl) ?_
                    refine WOps.e0 (Th_n (W.condT (by kernel_rfl) (W.seq (W.region ?_))))
                    refine WOps.run dr1 [(2, .bool false)] (by kernel_rfl) ?_
                    refine WOps.e0 (Th_n (W.ret (Bk_r (Th_r (Th_r (Bk_r (Th_r ?_)))))))
                    exact ret_t (r' := .bool false) (⟨false, rfl, fun h => by simp at h, fun h => by have := h.2.2.2 i hlt; unfold isDig at this; rcases this with h | h; exact absurd h hnl; omega⟩) (.inr rfl) rfl (by kernel_rfl) (vflat rfl)
                  · refine o_v2 (.bool (decide (((byteAt s i) : Int) > (57 : Int)))) (.bool false) (congrArg AV.bool (decide_eq_false (hd2))) (by kernel_rfl) ?_
                    refine WOps.run dr2 [(58, .bool false), (59, .bool false)] (by kernel_rfl) ?_
                    refine WOps.e0 (Th_n (W.condF (by kernel_rfl) (W.skip (Bk_n (Th_n (W.region ?_))))))
                    refine WOps.run dr1 [(23, .int .i64 (i : Nat))] (by kernel_rfl) ?_
                    refine o_v2 (.int .i64 (IntKind.i64.wrap (((i : Nat) : Int) + (1 : Int)))) (.int .i64 (((i + 1 : Nat) : Int))) (congrArg (AV.int .i64) (by rw [wrapN] <;> omega)) (by kernel_rfl) ?_
                    refine WOps.run dr1 [(3, .int .i64 ((i + 1 : Nat) : Int))] (by kernel_rfl) ?_
                    refine WOps.e0 (Th_n ?_)
                    exact ⟨u - 1, by omega, t2, .int .u8 (byteAt s i), .bool false, .int .i64 (i : Nat), .str s, .int .i64 (s.size : Nat), .bool true, .int .i64 (i : Nat), .int .i64 ((i + 1 : Nat) : Int), .str s, .int .i64 (i : Nat), .int .u8 (byteAt s i), t28, t29, t30, t31, t32, t33, t34, t35, t36, t37, t38, t39, t40, t41, t42, t43, t44, t45, .bool false, .bool true, .bool true, .int .i64 (i : Nat), .bool false, .bool false, .int .u8 (byteAt s i), .bool false, .bool false, .bool false, .int .u8 (byteAt s i), .bool false, .bool false, .bool false, i + 1, by kernel_rfl, hh19.pick [] (by decide), by omega, fun j hj => (Nat.lt_succ_iff_lt_or_eq.1 hj).elim (fun h => hall j h) fun h => by subst h; exact .inr ⟨hi0, by unfold isDig; omega⟩⟩
          · refine W.region ?_
            refine WOps.run dr1 [(28, .int .u8 (byteAt s i))] (by kernel_rfl) ?_
            by_cases h1 : byteAt s i ≥ 97
            · refine o_v2 (.bool (decide (((byteAt s i) : Int) ≥ (97 : Int)))) (.bool true) (congrArg AV.bool (decide_eq_true (h1))) (by kernel_rfl) ?_
              refine WOps.run dr2 [(30, .bool true), (31, .int .u8 (byteAt s i))] (by kernel_rfl) ?_
              by_cases h2 : byteAt s i ≤ 122
              · refine o_v2 (.bool (decide (((byteAt s i) : Int) ≤ (122 : Int)))) (.bool true) (congrArg AV.bool (decide_eq_true (h2))) (by kernel_rfl) ?_
                refine WOps.run (drx dr4) [(33, .bool true), (34, .bool true), (35, .undef), (36, .undef), (37, .undef), (38, .undef), (39, .undef), (40, .undef), (41, .bool true), (42, .bool true), (43, .undef), (44, .undef), (45, .bool true), (5, .bool true)] (by kernel_rfl) ?_
                refine WOps.e0 (Th_n ?_)
                exact ⟨.int .u8 (byteAt s i), .bool true, .bool true, .int .u8 (byteAt s i), .bool true, .bool true, .bool true, .undef, .undef, .undef, .undef, .undef, .undef, .bool true, .bool true, .undef, .undef, .bool true, true, by kernel_rfl, hh17.pick [] (by decide), by unfold isLet; simp; omega⟩
              · refine o_v2 (.bool (decide (((byteAt s i) : Int) ≤ (122 : Int)))) (.bool false) (congrArg AV.bool (decide_eq_false (h2))) (by kernel_rfl) ?_
                refine WOps.run dr3 [(33, .bool false), (34, .bool false), (35, .int .u8 (byteAt s i))] (by kernel_rfl) ?_
                refine o_v2 (.bool (decide (((byteAt s i) : Int) ≥ (65 : Int)))) (.bool true) (congrArg AV.bool (decide_eq_true (by omega))) (by kernel_rfl) ?_
                refine WOps.run dr2 [(37, .bool true), (38, .int .u8 (byteAt s i))] (by kernel_rfl) ?_
                refine o_v2 (.bool (decide (((byteAt s i) : Int) ≤ (90 : Int)))) (.bool false) (congrArg AV.bool (decide_eq_false (by omega))) (by kernel_rfl) ?_
                refine WOps.run dr4 [(40, .bool false), (41, .bool false), (42, .bool false), (43, .int .u8 (byteAt s i))] (by kernel_rfl) ?_
                refine o_v2 (.bool ((((byteAt s i) : Int) == (95 : Int)))) (.bool false) (congrArg AV.bool (beq_eq_false_iff_ne.2 (by omega))) (by kernel_rfl) ?_
                refine WOps.run dr2 [(45, .bool false), (5, .bool false)] (by kernel_rfl) ?_
                refine WOps.e0 (Th_n ?_)
                exact ⟨.int .u8 (byteAt s i), .bool true, .bool true, .int .u8 (byteAt s i), .bool false, .bool false, .bool false, .int .u8 (byteAt s i), .bool true, .bool true, .int .u8 (byteAt s i), .bool false, .bool false, .bool false, .bool false, .int .u8 (byteAt s i), .bool false, .bool false, false, by kernel_rfl, hh17.pick [] (by decide), by unfold isLet; simp; omega⟩
            · refine o_v2 (.bool (decide (((byteAt s i) : Int) ≥ (97 : Int)))) (.bool false) (congrArg AV.bool (decide_eq_false (h1))) (by kernel_rfl) ?_
              refine WOps.run dr6 [(30, .bool false), (31, .undef), (32, .undef), (33, .bool false), (34, .bool false), (35, .int .u8 (byteAt s i))] (by kernel_rfl) ?_
              by_cases h3 : byteAt s i ≥ 65
              · refine o_v2 (.bool (decide (((byteAt s i) : Int) ≥ (65 : Int)))) (.bool true) (congrArg AV.bool (decide_eq_true (h3))) (by kernel_rfl) ?_
                refine WOps.run dr2 [(37, .bool true), (38, .int .u8 (byteAt s i))] (by kernel_rfl) ?_
                by_cases h4 : byteAt s i ≤ 90
                · refine o_v2 (.bool (decide (((byteAt s i) : Int) ≤ (90 : Int)))) (.bool true) (congrArg AV.bool (decide_eq_true (h4))) (by kernel_rfl) ?_
                  refine WOps.run dr7 [(40, .bool true), (41, .bool true), (42, .bool true), (43, .undef), (44, .undef), (45, .bool true), (5, .bool true)] (by kernel_rfl) ?_
                  refine WOps.e0 (Th_n ?_)
                  exact ⟨.int .u8 (byteAt s i), .bool false, .bool false, .undef, .undef, .bool false, .bool false, .int .u8 (byteAt s i), .bool true, .bool true, .int .u8 (byteAt s i), .bool true, .bool true, .bool true, .bool true, .undef, .undef, .bool true, true, by kernel_rfl, hh17.pick [] (by decide), by unfold isLet; simp; omega⟩
                · refine o_v2 (.bool (decide (((byteAt s i) : Int) ≤ (90 : Int)))) (.bool false) (congrArg AV.bool (decide_eq_false (h4))) (by kernel_rfl) ?_
                  refine WOps.run dr4 [(40, .bool false), (41, .bool false), (42, .bool false), (43, .int .u8 (byteAt s i))] (by kernel_rfl) ?_
                  by_cases h5 : byteAt s i = 95
                  · refine o_v2 (.bool ((((byteAt s i) : Int) == (95 : Int)))) (.bool true) (congrArg AV.bool (beq_iff_eq.2 (h5))) (by kernel_rfl) ?_
                    refine WOps.run dr2 [(45, .bool true), (5, .bool true)] (by kernel_rfl) ?_
                    refine WOps.e0 (Th_n ?_)
                    exact ⟨.int .u8 (byteAt s i), .bool false, .bool false, .undef, .undef, .bool false, .bool false, .int .u8 (byteAt s i), .bool true, .bool true, .int .u8 (byteAt s i), .bool false, .bool false, .bool false, .bool false, .int .u8 (byteAt s i), .bool true, .bool true, true, by kernel_rfl, hh17.pick [] (by decide), by unfold isLet; simp; omega⟩
                  · refine o_v2 (.bool ((((byteAt s i) : Int) == (95 : Int)))) (.bool false) (congrArg AV.bool (beq_eq_false_iff_ne.2 (h5))) (by kernel_rfl) ?_
                    refine WOps.run dr2 [(45, .bool false), (5, .bool false)] (by kernel_rfl) ?_
                    refine WOps.e0 (Th_n ?_)
                    exact ⟨.int .u8 (byteAt s i), .bool false, .bool false, .undef, .undef, .bool false, .bool false, .int .u8 (byteAt s i), .bool true, .bool true, .int .u8 (byteAt s i), .bool false, .bool false, .bool false, .bool false, .int .u8 (byteAt s i), .bool false, .bool false, false, by kernel_rfl, hh17.pick [] (by decide), by unfold isLet; simp; omega⟩
              · refine o_v2 (.bool (decide (((byteAt s i) : Int) ≥ (65 : Int)))) (.bool false) (congrArg AV.bool (decide_eq_false (h3))) (by kernel_rfl) ?_
                refine WOps.run dr7 [(37, .bool false), (38, .undef), (39, .undef), (40, .bool false), (41, .bool false), (42, .bool false), (43, .int .u8 (byteAt s i))] (by kernel_rfl) ?_
                refine o_v2 (.bool ((((byteAt s i) : Int) == (95 : Int)))) (.bool false) (congrArg AV.bool (beq_eq_false_iff_ne.2 (by omega))) (by kernel_rfl) ?_
                refine WOps.run dr2 [(45, .bool false), (5, .bool false)] (by kernel_rfl) ?_
                refine WOps.e0 (Th_n ?_)
                exact ⟨.int .u8 (byteAt s i), .bool false, .bool false, .undef, .undef, .bool false, .bool false, .int .u8 (byteAt s i), .bool false, .bool false, .undef, .undef, .bool false, .bool false, .bool false, .int .u8 (byteAt s i), .bool false, .bool false, false, by kernel_rfl, hh17.pick [] (by decide), by unfold isLet; simp; omega⟩
        · refine o_v2 (.bool (decide (((i : Nat) : Int) < ((s.size : Nat) : Int)))) (.bool false) (congrArg AV.bool (decide_eq_false (by omega))) (by kernel_rfl) ?_
          refine WOps.e0 (Th_n (W.condF (by kernel_rfl) (W.exit (Th_e (Th_e (Bk_s (Th_n (W.seq (W.region ?_)))))))))
          refine WOps.run dr1 [(2, .bool true)] (by kernel_rfl) ?_
          refine WOps.e0 (Th_n (W.ret ?_))
          exact ret_t (r' := .bool true) (⟨true, rfl, fun _ => ⟨by omega, by omega, fun w hw e => by have := hkw.2 ⟨w, hw, e⟩; simp at this, fun j hj => hall j (by omega)⟩, fun _ => rfl⟩) (.inr rfl) rfl (by kernel_rfl) (vflat rfl)

theorem no_kw {s : ByteArray} (w0 : ¬ s.toList = (ByteArray.mk #[116, 114, 117, 101]).toList) (w1 : ¬ s.toList = (ByteArray.mk #[102, 97, 108, 115, 101]).toList) (w2 : ¬ s.toList = (ByteArray.mk #[97, 110, 100]).toList) (w3 : ¬ s.toList = (ByteArray.mk #[111, 114]).toList) (w4 : ¬ s.toList = (ByteArray.mk #[110, 111, 116]).toList) (w5 : ¬ s.toList = (ByteArray.mk #[105, 109, 112, 108, 105, 101, 115]).toList) (w6 : ¬ s.toList = (ByteArray.mk #[105, 102, 102]).toList) (w7 : ¬ s.toList = (ByteArray.mk #[102, 111, 114, 97, 108, 108]).toList) (w8 : ¬ s.toList = (ByteArray.mk #[101, 120, 105, 115, 116, 115]).toList) : ∀ w ∈ kwords, s.toList = w.toList → False := by
  intro w hw e
  simp only [kwords, List.mem_cons, List.not_mem_nil, or_false] at hw
  rcases hw with rfl | rfl | rfl | rfl | rfl | rfl | rfl | rfl | rfl <;> contradiction

theorem pValid_con (s : ByteArray) (hs : s.size ≤ 9223372036854775807) : Con 156 [.str s] (Sp1 156 [.str s]) := by
  refine con_ret (Sp := Sp1) Tryz.func156 rfl ?_
  show W (ES Sp1) _ _ ⟨[.str s] ++ List.replicate 51 .undef, []⟩
  have hh20 := @Has.nil ([] : Heap)
  refine W.seq (W.region ?_)
  refine WOps.run dr1 [(2, .bool false)] (by kernel_rfl) ?_
  refine WOps.e0 (Th_n (W.seq (W.seq (W.region ?_))))
  refine WOps.run dr1 [(4, .str s)] (by kernel_rfl) ?_
  refine o_vb (.int .i64 (s.size : Nat)) (rfl) (by kernel_rfl) ?_
  by_cases h1 : s.size < 1
  · refine o_v2 (.bool (decide (((s.size : Nat) : Int) < (1 : Int)))) (.bool true) (congrArg AV.bool (decide_eq_true (by omega))) (by kernel_rfl) ?_
    refine WOps.run (drx dr1) [(7, .bool true), (8, .undef), (9, .undef), (10, .undef), (11, .bool true), (12, .bool true), (13, .undef), (14, .undef), (15, .undef), (16, .undef), (17, .bool true)] (by kernel_rfl) ?_
    refine WOps.e0 (Th_n (W.condT (by kernel_rfl) (W.seq (W.region ?_))))
    refine WOps.run dr1 [(2, .bool false)] (by kernel_rfl) ?_
    refine WOps.e0 (Th_n (W.ret (Th_r ?_)))
    exact ret_t (r' := .bool false) (⟨false, rfl, fun h => by simp at h, fun h => absurd h.1 (by omega)⟩) (.inr rfl) rfl (by kernel_rfl) (vflat rfl)
  · refine o_v2 (.bool (decide (((s.size : Nat) : Int) < (1 : Int)))) (.bool false) (congrArg AV.bool (decide_eq_false (by omega))) (by kernel_rfl) ?_
    refine WOps.run dr2 [(7, .bool false), (8, .str s)] (by kernel_rfl) ?_
    refine o_vb (.int .i64 (s.size : Nat)) (rfl) (by kernel_rfl) ?_
    by_cases h2 : s.size > 16
    · refine o_v2 (.bool (decide (((s.size : Nat) : Int) > (16 : Int)))) (.bool true) (congrArg AV.bool (decide_eq_true (by omega))) (by kernel_rfl) ?_
      refine WOps.run dr7 [(11, .bool true), (12, .bool true), (13, .undef), (14, .undef), (15, .undef), (16, .undef), (17, .bool true)] (by kernel_rfl) ?_
      refine WOps.e0 (Th_n (W.condT (by kernel_rfl) (W.seq (W.region ?_))))
      refine WOps.run dr1 [(2, .bool false)] (by kernel_rfl) ?_
      refine WOps.e0 (Th_n (W.ret (Th_r ?_)))
      exact ret_t (r' := .bool false) (⟨false, rfl, fun h => by simp at h, fun h => absurd h.2.1 (by omega)⟩) (.inr rfl) rfl (by kernel_rfl) (vflat rfl)
    · refine o_v2 (.bool (decide (((s.size : Nat) : Int) > (16 : Int)))) (.bool false) (congrArg AV.bool (decide_eq_false (by omega))) (by kernel_rfl) ?_
      refine WOps.run dr3 [(11, .bool false), (12, .bool false), (13, .str s)] (by kernel_rfl) ?_
      refine o_vk (.int .u8 (byteAt s 0)) (idx9 (show 0 < s.size by omega)) (by kernel_rfl) ?_
      refine o_call (ys := [.int .u8 (byteAt s 0)]) (vflats rfl) (letter_con (byteAt s 0)) rfl (by kernel_rfl) fun z Oz hz => ?_
      obtain ⟨c, rfl, hc⟩ := hz
      cases c with
      | false =>
        refine WOps.run dr2 [(16, .bool true), (17, .bool true)] (by kernel_rfl) ?_
        refine WOps.e0 (Th_n (W.condT (by kernel_rfl) (W.seq (W.region ?_))))
        refine WOps.run dr1 [(2, .bool false)] (by kernel_rfl) ?_
        refine WOps.e0 (Th_n (W.ret (Th_r ?_)))
        exact ret_t (r' := .bool false) (⟨false, rfl, fun h => by simp at h, fun h => by have h0 := h.2.2.2 0 (by omega); rcases h0 with h0 | h0; have := hc.2 h0; simp at this; exact absurd rfl h0.1⟩) (.inr rfl) rfl (by kernel_rfl) (vflat rfl)
      | true =>
        refine WOps.run dr2 [(16, .bool false), (17, .bool false)] (by kernel_rfl) ?_
        refine WOps.e0 (Th_n (W.condF (by kernel_rfl) (W.skip (Th_n (W.seq (W.seq (W.region ?_)))))))
        refine WOps.run dr1 [(18, .str s)] (by kernel_rfl) ?_
        have hl0 := hc.1 rfl
        refine o_vb (.int .i64 (s.size : Nat)) (rfl) (by kernel_rfl) ?_
        refine WOps.run dr1 [(20, .int .i64 0)] (by kernel_rfl) ?_
        refine WOps.e0 (Th_n (W.blk ?_))
        refine W.lp (fun T u T1 H1 => ∃ (t2 t3 t21 t22 t23 t24 t25 t26 t27 t28 t29 t30 t31 t32 t33 t34 t35 t36 t37 t38 t39 t40 : AV) (i : Nat), ups T [(2, t2), (3, t3), (20, .int .i64 (i : Nat)), (21, t21), (22, t22), (23, t23), (24, t24), (25, t25), (26, t26), (27, t27), (28, t28), (29, t29), (30, t30), (31, t31), (32, t32), (33, t33), (34, t34), (35, t35), (36, t36), (37, t37), (38, t38), (39, t39), (40, t40)] = T1 ∧ Has H1 [] ∧ i + u = s.size ∧ ∀ j, j < i → isLet (byteAt s j) ∨ j ≠ 0 ∧ isDig (byteAt s j)) (s.size) ⟨.bool false, .undef, .undef, .undef, .undef, .undef, .undef, .undef, .undef, .undef, .undef, .undef, .undef, .undef, .undef, .undef, .undef, .undef, .undef, .undef, .undef, .undef, 0, by kernel_rfl, hh20.pick [] (by decide), Nat.zero_add _, fun j hj => by omega⟩ ?_
        rintro u _ H21 ⟨t2, t3, t21, t22, t23, t24, t25, t26, t27, t28, t29, t30, t31, t32, t33, t34, t35, t36, t37, t38, t39, t40, i, rfl, hh22, hi, hall⟩
        refine W.seq (W.region ?_)
        by_cases hlt : i < s.size
        · refine o_v2 (.bool (decide (((i : Nat) : Int) < ((s.size : Nat) : Int)))) (.bool true) (congrArg AV.bool (decide_eq_true (by omega))) (by kernel_rfl) ?_
          refine WOps.e0 (Th_n (W.seq (W.condT (by kernel_rfl) (W.skip (Th_n (W.seq (W.blk (W.seq (W.region ?_)))))))))
          refine WOps.run dr2 [(22, .int .i64 (i : Nat)), (3, .int .i64 (i : Nat))] (by kernel_rfl) ?_
          refine WOps.e0 (Th_n (W.seq (W.region ?_)))
          refine WOps.run dr2 [(23, .str s), (24, .int .i64 (i : Nat))] (by kernel_rfl) ?_
          refine o_vk (.int .u8 (byteAt s i)) (idx9 hlt) (by kernel_rfl) ?_
          refine o_call (ys := [.int .u8 (byteAt s i)]) (vflats rfl) (letter_con (byteAt s i)) rfl (by kernel_rfl) fun y Oy hy => ?_
          obtain ⟨b, rfl, hb⟩ := hy
          cases b with
          | true =>
            refine WOps.run (drx dr3) [(27, .bool false), (28, .bool false), (29, .undef), (30, .undef), (31, .undef), (32, .undef), (33, .undef), (34, .undef), (35, .undef), (36, .undef), (37, .undef), (38, .undef), (39, .bool false)] (by kernel_rfl) ?_
            refine WOps.e0 (Th_n (W.condF (by kernel_rfl) (W.skip (Bk_n (Th_n (W.region ?_))))))
            refine o_v2 (.int .i64 (IntKind.i64.wrap (((i : Nat) : Int) + (1 : Int)))) (.int .i64 (((i + 1 : Nat) : Int))) (congrArg (AV.int .i64) (by rw [wrapN] <;> omega)) (by kernel_rfl) ?_
            refine WOps.run dr1 [(20, .int .i64 ((i + 1 : Nat) : Int))] (by kernel_rfl) ?_
            refine WOps.e0 (Th_n ?_)
            exact ⟨u - 1, by omega, t2, .int .i64 (i : Nat), .bool true, .int .i64 (i : Nat), .str s, .int .i64 (i : Nat), .int .u8 (byteAt s i), .bool true, .bool false, .bool false, .undef, .undef, .undef, .undef, .undef, .undef, .undef, .undef, .undef, .undef, .bool false, .int .i64 ((i + 1 : Nat) : Int), i + 1, by kernel_rfl, hh22.pick [] (by decide), by omega, fun j hj => (Nat.lt_succ_iff_lt_or_eq.1 hj).elim (fun h => hall j h) fun h => by subst h; exact .inl (hb.1 rfl)⟩
          | false =>
            refine WOps.run dr4 [(27, .bool true), (28, .bool true), (29, .str s), (30, .int .i64 (i : Nat))] (by kernel_rfl) ?_
            have hnl : ¬ isLet (byteAt s i) := fun h => by have := hb.2 h; simp at this
            have hi0 : i ≠ 0 := fun h => by subst h; exact hnl hl0
            refine o_vk (.int .u8 (byteAt s i)) (idx9 hlt) (by kernel_rfl) ?_
            by_cases hd1 : byteAt s i < 48
            · refine o_v2 (.bool (decide (((byteAt s i) : Int) < (48 : Int)))) (.bool true) (congrArg AV.bool (decide_eq_true (hd1))) (by kernel_rfl) ?_
              refine WOps.run dr7 [(33, .bool true), (34, .undef), (35, .undef), (36, .undef), (37, .undef), (38, .bool true), (39, .bool true)] (by kernel_rfl) ?_
              refine WOps.e0 (Th_n (W.condT (by kernel_rfl) (W.seq (W.region ?_))))
              refine WOps.run dr1 [(2, .bool false)] (by kernel_rfl) ?_
              refine WOps.e0 (Th_n (W.ret (Bk_r (Th_r (Th_r (Bk_r (Th_r ?_)))))))
              exact ret_t (r' := .bool false) (⟨false, rfl, fun h => by simp at h, fun h => by have := h.2.2.2 i hlt; unfold isDig at this; rcases this with h | h; exact absurd h hnl; omega⟩) (.inr rfl) rfl (by kernel_rfl) (vflat rfl)
            · refine o_v2 (.bool (decide (((byteAt s i) : Int) < (48 : Int)))) (.bool false) (congrArg AV.bool (decide_eq_false (hd1))) (by kernel_rfl) ?_
              refine WOps.run dr3 [(33, .bool false), (34, .str s), (35, .int .i64 (i : Nat))] (by kernel_rfl) ?_
              refine o_vk (.int .u8 (byteAt s i)) (idx9 hlt) (by kernel_rfl) ?_
              by_cases hd2 : byteAt s i > 57
              · refine o_v2 (.bool (decide (((byteAt s i) : Int) > (57 : Int)))) (.bool true) (congrArg AV.bool (decide_eq_true (hd2))) (by kernel_rfl) ?_
                refine WOps.run dr2 [(38, .bool true), (39, .bool true)] (by kernel_rfl) ?_
                refine WOps.e0 (Th_n (W.condT (by kernel_rfl) (W.seq (W.region ?_))))
                refine WOps.run dr1 [(2, .bool false)] (by kernel_rfl) ?_
                refine WOps.e0 (Th_n (W.ret (Bk_r (Th_r (Th_r (Bk_r (Th_r ?_)))))))
                exact ret_t (r' := .bool false) (⟨false, rfl, fun h => by simp at h, fun h => by have := h.2.2.2 i hlt; unfold isDig at this; rcases this with h | h; exact absurd h hnl; omega⟩) (.inr rfl) rfl (by kernel_rfl) (vflat rfl)
              · refine o_v2 (.bool (decide (((byteAt s i) : Int) > (57 : Int)))) (.bool false) (congrArg AV.bool (decide_eq_false (hd2))) (by kernel_rfl) ?_
                refine WOps.run dr2 [(38, .bool false), (39, .bool false)] (by kernel_rfl) ?_
                refine WOps.e0 (Th_n (W.condF (by kernel_rfl) (W.skip (Bk_n (Th_n (W.region ?_))))))
                refine o_v2 (.int .i64 (IntKind.i64.wrap (((i : Nat) : Int) + (1 : Int)))) (.int .i64 (((i + 1 : Nat) : Int))) (congrArg (AV.int .i64) (by rw [wrapN] <;> omega)) (by kernel_rfl) ?_
                refine WOps.run dr1 [(20, .int .i64 ((i + 1 : Nat) : Int))] (by kernel_rfl) ?_
                refine WOps.e0 (Th_n ?_)
                exact ⟨u - 1, by omega, t2, .int .i64 (i : Nat), .bool true, .int .i64 (i : Nat), .str s, .int .i64 (i : Nat), .int .u8 (byteAt s i), .bool false, .bool true, .bool true, .str s, .int .i64 (i : Nat), .int .u8 (byteAt s i), .bool false, .bool false, .str s, .int .i64 (i : Nat), .int .u8 (byteAt s i), .bool false, .bool false, .bool false, .int .i64 ((i + 1 : Nat) : Int), i + 1, by kernel_rfl, hh22.pick [] (by decide), by omega, fun j hj => (Nat.lt_succ_iff_lt_or_eq.1 hj).elim (fun h => hall j h) fun h => by subst h; exact .inr ⟨hi0, by unfold isDig; omega⟩⟩
        · refine o_v2 (.bool (decide (((i : Nat) : Int) < ((s.size : Nat) : Int)))) (.bool false) (congrArg AV.bool (decide_eq_false (by omega))) (by kernel_rfl) ?_
          refine WOps.e0 (Th_n (W.seq (W.condF (by kernel_rfl) (W.exit (Th_e (Th_e (Bk_s (Th_n (W.seq (W.seq (W.region ?_)))))))))))
          refine WOps.run dr1 [(41, .str s)] (by kernel_rfl) ?_
          refine WOps.e0 (Th_n (W.blk ?_))
          refine W.cut (fun T T1 H1 => ∃ (t43 t44 t45 t46 t47 t48 t49 t50 t51 : AV) (b : Bool), ups T [(42, .bool b), (43, t43), (44, t44), (45, t45), (46, t46), (47, t47), (48, t48), (49, t49), (50, t50), (51, t51)] = T1 ∧ Has H1 [] ∧ (b = true ↔ ∃ w ∈ kwords, s.toList = w.toList)) ?_ ?_
          · rintro _ H23 ⟨t43, t44, t45, t46, t47, t48, t49, t50, t51, b, rfl, hh24, hb⟩
            cases b with
            | true =>
              refine W.condT (by kernel_rfl) (W.seq (W.region ?_))
              refine WOps.run dr1 [(2, .bool false)] (by kernel_rfl) ?_
              refine WOps.e0 (Th_n (W.ret (Bk_r (Th_r ?_))))
              exact ret_t (r' := .bool false) (⟨false, rfl, fun h => by simp at h, fun h => by obtain ⟨w, h3, h4⟩ := hb.1 rfl; exact absurd h4 (h.2.2.1 w h3)⟩) (.inr rfl) rfl (by kernel_rfl) (vflat rfl)
            | false =>
              refine W.condF (by kernel_rfl) (W.skip (Bk_n (Th_n (W.seq (W.region ?_)))))
              refine WOps.run dr1 [(2, .bool true)] (by kernel_rfl) ?_
              refine WOps.e0 (Th_n (W.ret ?_))
              exact ret_t (r' := .bool true) (⟨true, rfl, fun _ => ⟨by omega, by omega, fun w hw e => by have := hb.2 ⟨w, hw, e⟩; simp at this, fun j hj => hall j (by omega)⟩, fun _ => rfl⟩) (.inr rfl) rfl (by kernel_rfl) (vflat rfl)
          · refine W.seq (W.region ?_)
            by_cases w0 : s.toList = (ByteArray.mk #[116, 114, 117, 101]).toList
            · refine o_v2 (.bool ((s.toList == (ByteArray.mk #[116, 114, 117, 101]).toList))) (.bool true) (congrArg AV.bool (beq_iff_eq.2 (w0))) (by kernel_rfl) ?_
              refine WOps.run dr1 [(42, .bool true)] (by kernel_rfl) ?_
              refine WOps.e0 (Th_n (W.condT (by kernel_rfl) (W.skip (Th_n ?_))))
              exact ⟨.bool true, .undef, .undef, .undef, .undef, .undef, .undef, .undef, .undef, true, by kernel_rfl, hh22.pick [] (by decide), ⟨fun _ => ⟨_, by simp only [kwords]; exact List.mem_of_getElem? (i := 0) rfl, w0⟩, fun _ => rfl⟩⟩
            · refine o_v2 (.bool ((s.toList == (ByteArray.mk #[116, 114, 117, 101]).toList))) (.bool false) (congrArg AV.bool (beq_eq_false_iff_ne.2 (w0))) (by kernel_rfl) ?_
              refine WOps.run dr1 [(42, .bool false)] (by kernel_rfl) ?_
              refine WOps.e0 (Th_n (W.condF (by kernel_rfl) (W.seq (W.region ?_))))
              by_cases w1 : s.toList = (ByteArray.mk #[102, 97, 108, 115, 101]).toList
              · refine o_v2 (.bool ((s.toList == (ByteArray.mk #[102, 97, 108, 115, 101]).toList))) (.bool true) (congrArg AV.bool (beq_iff_eq.2 (w1))) (by kernel_rfl) ?_
                refine WOps.run dr1 [(42, .bool true)] (by kernel_rfl) ?_
                refine WOps.e0 (Th_n (W.condT (by kernel_rfl) (W.skip (Th_n ?_))))
                exact ⟨.bool false, .bool true, .undef, .undef, .undef, .undef, .undef, .undef, .undef, true, by kernel_rfl, hh22.pick [] (by decide), ⟨fun _ => ⟨_, by simp only [kwords]; exact List.mem_of_getElem? (i := 1) rfl, w1⟩, fun _ => rfl⟩⟩
              · refine o_v2 (.bool ((s.toList == (ByteArray.mk #[102, 97, 108, 115, 101]).toList))) (.bool false) (congrArg AV.bool (beq_eq_false_iff_ne.2 (w1))) (by kernel_rfl) ?_
                refine WOps.run dr1 [(42, .bool false)] (by kernel_rfl) ?_
                refine WOps.e0 (Th_n (W.condF (by kernel_rfl) (W.seq (W.region ?_))))
                by_cases w2 : s.toList = (ByteArray.mk #[97, 110, 100]).toList
                · refine o_v2 (.bool ((s.toList == (ByteArray.mk #[97, 110, 100]).toList))) (.bool true) (congrArg AV.bool (beq_iff_eq.2 (w2))) (by kernel_rfl) ?_
                  refine WOps.run dr1 [(42, .bool true)] (by kernel_rfl) ?_
                  refine WOps.e0 (Th_n (W.condT (by kernel_rfl) (W.skip (Th_n ?_))))
                  exact ⟨.bool false, .bool false, .bool true, .undef, .undef, .undef, .undef, .undef, .undef, true, by kernel_rfl, hh22.pick [] (by decide), ⟨fun _ => ⟨_, by simp only [kwords]; exact List.mem_of_getElem? (i := 2) rfl, w2⟩, fun _ => rfl⟩⟩
                · refine o_v2 (.bool ((s.toList == (ByteArray.mk #[97, 110, 100]).toList))) (.bool false) (congrArg AV.bool (beq_eq_false_iff_ne.2 (w2))) (by kernel_rfl) ?_
                  refine WOps.run dr1 [(42, .bool false)] (by kernel_rfl) ?_
                  refine WOps.e0 (Th_n (W.condF (by kernel_rfl) (W.seq (W.region ?_))))
                  by_cases w3 : s.toList = (ByteArray.mk #[111, 114]).toList
                  · refine o_v2 (.bool ((s.toList == (ByteArray.mk #[111, 114]).toList))) (.bool true) (congrArg AV.bool (beq_iff_eq.2 (w3))) (by kernel_rfl) ?_
                    refine WOps.run dr1 [(42, .bool true)] (by kernel_rfl) ?_
                    refine WOps.e0 (Th_n (W.condT (by kernel_rfl) (W.skip (Th_n ?_))))
                    exact ⟨.bool false, .bool false, .bool false, .bool true, .undef, .undef, .undef, .undef, .undef, true, by kernel_rfl, hh22.pick [] (by decide), ⟨fun _ => ⟨_, by simp only [kwords]; exact List.mem_of_getElem? (i := 3) rfl, w3⟩, fun _ => rfl⟩⟩
                  · refine o_v2 (.bool ((s.toList == (ByteArray.mk #[111, 114]).toList))) (.bool false) (congrArg AV.bool (beq_eq_false_iff_ne.2 (w3))) (by kernel_rfl) ?_
                    refine WOps.run dr1 [(42, .bool false)] (by kernel_rfl) ?_
                    refine WOps.e0 (Th_n (W.condF (by kernel_rfl) (W.seq (W.region ?_))))
                    by_cases w4 : s.toList = (ByteArray.mk #[110, 111, 116]).toList
                    · refine o_v2 (.bool ((s.toList == (ByteArray.mk #[110, 111, 116]).toList))) (.bool true) (congrArg AV.bool (beq_iff_eq.2 (w4))) (by kernel_rfl) ?_
                      refine WOps.run dr1 [(42, .bool true)] (by kernel_rfl) ?_
                      refine WOps.e0 (Th_n (W.condT (by kernel_rfl) (W.skip (Th_n ?_))))
                      exact ⟨.bool false, .bool false, .bool false, .bool false, .bool true, .undef, .undef, .undef, .undef, true, by kernel_rfl, hh22.pick [] (by decide), ⟨fun _ => ⟨_, by simp only [kwords]; exact List.mem_of_getElem? (i := 4) rfl, w4⟩, fun _ => rfl⟩⟩
                    · refine o_v2 (.bool ((s.toList == (ByteArray.mk #[110, 111, 116]).toList))) (.bool false) (congrArg AV.bool (beq_eq_false_iff_ne.2 (w4))) (by kernel_rfl) ?_
                      refine WOps.run dr1 [(42, .bool false)] (by kernel_rfl) ?_
                      refine WOps.e0 (Th_n (W.condF (by kernel_rfl) (W.seq (W.region ?_))))
                      by_cases w5 : s.toList = (ByteArray.mk #[105, 109, 112, 108, 105, 101, 115]).toList
                      · refine o_v2 (.bool ((s.toList == (ByteArray.mk #[105, 109, 112, 108, 105, 101, 115]).toList))) (.bool true) (congrArg AV.bool (beq_iff_eq.2 (w5))) (by kernel_rfl) ?_
                        refine WOps.run dr1 [(42, .bool true)] (by kernel_rfl) ?_
                        refine WOps.e0 (Th_n (W.condT (by kernel_rfl) (W.skip (Th_n ?_))))
                        exact ⟨.bool false, .bool false, .bool false, .bool false, .bool false, .bool true, .undef, .undef, .undef, true, by kernel_rfl, hh22.pick [] (by decide), ⟨fun _ => ⟨_, by simp only [kwords]; exact List.mem_of_getElem? (i := 5) rfl, w5⟩, fun _ => rfl⟩⟩
                      · refine o_v2 (.bool ((s.toList == (ByteArray.mk #[105, 109, 112, 108, 105, 101, 115]).toList))) (.bool false) (congrArg AV.bool (beq_eq_false_iff_ne.2 (w5))) (by kernel_rfl) ?_
                        refine WOps.run dr1 [(42, .bool false)] (by kernel_rfl) ?_
                        refine WOps.e0 (Th_n (W.condF (by kernel_rfl) (W.seq (W.region ?_))))
                        by_cases w6 : s.toList = (ByteArray.mk #[105, 102, 102]).toList
                        · refine o_v2 (.bool ((s.toList == (ByteArray.mk #[105, 102, 102]).toList))) (.bool true) (congrArg AV.bool (beq_iff_eq.2 (w6))) (by kernel_rfl) ?_
                          refine WOps.run dr1 [(42, .bool true)] (by kernel_rfl) ?_
                          refine WOps.e0 (Th_n (W.condT (by kernel_rfl) (W.skip (Th_n ?_))))
                          exact ⟨.bool false, .bool false, .bool false, .bool false, .bool false, .bool false, .bool true, .undef, .undef, true, by kernel_rfl, hh22.pick [] (by decide), ⟨fun _ => ⟨_, by simp only [kwords]; exact List.mem_of_getElem? (i := 6) rfl, w6⟩, fun _ => rfl⟩⟩
                        · refine o_v2 (.bool ((s.toList == (ByteArray.mk #[105, 102, 102]).toList))) (.bool false) (congrArg AV.bool (beq_eq_false_iff_ne.2 (w6))) (by kernel_rfl) ?_
                          refine WOps.run dr1 [(42, .bool false)] (by kernel_rfl) ?_
                          refine WOps.e0 (Th_n (W.condF (by kernel_rfl) (W.seq (W.region ?_))))
                          by_cases w7 : s.toList = (ByteArray.mk #[102, 111, 114, 97, 108, 108]).toList
                          · refine o_v2 (.bool ((s.toList == (ByteArray.mk #[102, 111, 114, 97, 108, 108]).toList))) (.bool true) (congrArg AV.bool (beq_iff_eq.2 (w7))) (by kernel_rfl) ?_
                            refine WOps.run dr1 [(42, .bool true)] (by kernel_rfl) ?_
                            refine WOps.e0 (Th_n (W.condT (by kernel_rfl) (W.skip (Th_n ?_))))
                            exact ⟨.bool false, .bool false, .bool false, .bool false, .bool false, .bool false, .bool false, .bool true, .undef, true, by kernel_rfl, hh22.pick [] (by decide), ⟨fun _ => ⟨_, by simp only [kwords]; exact List.mem_of_getElem? (i := 7) rfl, w7⟩, fun _ => rfl⟩⟩
                          · refine o_v2 (.bool ((s.toList == (ByteArray.mk #[102, 111, 114, 97, 108, 108]).toList))) (.bool false) (congrArg AV.bool (beq_eq_false_iff_ne.2 (w7))) (by kernel_rfl) ?_
                            refine WOps.run dr1 [(42, .bool false)] (by kernel_rfl) ?_
                            refine WOps.e0 (Th_n (W.condF (by kernel_rfl) (W.region ?_)))
                            by_cases w8 : s.toList = (ByteArray.mk #[101, 120, 105, 115, 116, 115]).toList
                            · refine o_v2 (.bool ((s.toList == (ByteArray.mk #[101, 120, 105, 115, 116, 115]).toList))) (.bool true) (congrArg AV.bool (beq_iff_eq.2 (w8))) (by kernel_rfl) ?_
                              refine WOps.run dr1 [(42, .bool true)] (by kernel_rfl) ?_
                              refine WOps.e0 (Th_n ?_)
                              exact ⟨.bool false, .bool false, .bool false, .bool false, .bool false, .bool false, .bool false, .bool false, .bool true, true, by kernel_rfl, hh22.pick [] (by decide), ⟨fun _ => ⟨_, by simp only [kwords]; exact List.mem_of_getElem? (i := 8) rfl, w8⟩, fun _ => rfl⟩⟩
                            · refine o_v2 (.bool ((s.toList == (ByteArray.mk #[101, 120, 105, 115, 116, 115]).toList))) (.bool false) (congrArg AV.bool (beq_eq_false_iff_ne.2 (w8))) (by kernel_rfl) ?_
                              refine WOps.run dr1 [(42, .bool false)] (by kernel_rfl) ?_
                              refine WOps.e0 (Th_n ?_)
                              exact ⟨.bool false, .bool false, .bool false, .bool false, .bool false, .bool false, .bool false, .bool false, .bool false, false, by kernel_rfl, hh22.pick [] (by decide), ⟨fun h => by simp at h, fun ⟨w, hw, e⟩ => (no_kw w0 w1 w2 w3 w4 w5 w6 w7 w8 w hw e).elim⟩⟩

end Go.AX

/- AX, part 57: lists of names. -/
set_option linter.unusedVariables false
set_option linter.unusedSimpArgs false
set_option maxRecDepth 4000
set_option maxHeartbeats 4000000
namespace Go.AX
open Go Go.RowKit Go.Proofs
attribute [local irreducible] WOps WD W

theorem slice_names {l : AV} {ln : Nat} (h : LS 1 IsS l ln) {i : Nat} (hi : i < ln) : ∃ v, (∀ H, sliceA Tryz.prog H 48 l none (some (.int .i64 (i : Nat))) none = some v) ∧ LS 1 IsS v i ∧ namesOf v = (namesOf l).take i := by
  rcases h with ⟨_, rfl⟩ | ⟨cells, cap, rfl, h1, h2⟩
  · omega
  · refine ⟨.lst ((cells.drop (0 * 1)).take ((i - 0) * 1)) (i - 0) (cap.map (· - 0)), fun H => ?_, ?_, ?_⟩
    · have ha : asNat (.int .i64 (i : Nat)) = some i := asNat_nat _ _
      simp only [sliceA, P48, size9, bnds, natOr, ha]
      rw [if_pos ⟨Nat.zero_le _, by omega⟩]
    · refine .inr ⟨_, _, rfl, by simp; omega, fun j hj => ?_⟩
      have := h2 j (by omega)
      have e : (((cells.drop (0 * 1)).take ((i - 0) * 1)).drop (j * 1)).take 1 = (cells.drop (j * 1)).take 1 := by
        simp only [Nat.zero_mul, List.drop_zero, Nat.sub_zero, Nat.mul_one]
        rw [List.drop_take, List.take_take, Nat.min_eq_left (by omega)]
      rw [e]
      exact this
    · apply List.ext_getElem?
      intro j
      simp only [namesOf, elems, List.map_map, List.getElem?_map, Nat.sub_zero]
      by_cases hj : j < i
      · rw [List.getElem?_range hj, List.getElem?_take_of_lt hj, List.getElem?_map, List.getElem?_range (by omega)]
        simp only [Option.map_some, Function.comp]
        have e : (((cells.drop (0 * 1)).take (i * 1)).drop (j * 1)).take 1 = (cells.drop (j * 1)).take 1 := by
          simp only [Nat.zero_mul, List.drop_zero, Nat.mul_one]
          rw [List.drop_take, List.take_take, Nat.min_eq_left (by omega)]
        rw [e]
      · rw [List.getElem?_eq_none (by simp; omega), List.getElem?_eq_none (by simp; omega)]
        rfl

theorem mem_take {l : List ByteArray} {i : Nat} {s : ByteArray} : (∃ (j : Nat) (t : ByteArray), (l.take i)[j]? = some t ∧ t.toList = s.toList) ↔ ∃ (j : Nat) (t : ByteArray), j < i ∧ l[j]? = some t ∧ t.toList = s.toList := by
  constructor
  · rintro ⟨j, t, h1, h2⟩
    have hj : j < i := by
      have := (List.getElem?_eq_some_iff.1 h1).1
      simp at this
      omega
    rw [List.getElem?_take_of_lt hj] at h1
    exact ⟨j, t, hj, h1, h2⟩
  · rintro ⟨j, t, hj, h1, h2⟩
    exact ⟨j, t, by rw [List.getElem?_take_of_lt hj]; exact h1, h2⟩

/-- What is known of the first i names. -/
def OkUpto (l : List ByteArray) (i : Nat) : Prop := ∀ (j : Nat) s, j < i → l[j]? = some s → OkName s ∧ ∀ (k : Nat) t, k < j → l[k]? = some t → t.toList ≠ s.toList

theorem OkUpto.succ {l : List ByteArray} {i : Nat} {s : ByteArray} (h : OkUpto l i) (hs : l[i]? = some s) (h1 : OkName s) (h2 : ¬ ∃ (j : Nat) (t : ByteArray), (l.take i)[j]? = some t ∧ t.toList = s.toList) : OkUpto l (i + 1) := by
  intro j t hj ht
  rcases Nat.lt_succ_iff_lt_or_eq.1 hj with hj | rfl
  · exact h j t hj ht
  · rw [hs] at ht
    simp only [Option.some.injEq] at ht
    subst ht
    exact ⟨h1, fun k t hk ht e => h2 (mem_take.2 ⟨k, t, hk, ht, e⟩)⟩

theorem OkUpto.ok {l : List ByteArray} {i : Nat} (h : OkUpto l i) (hi : l.length ≤ i) (h4 : l.length ≤ 4) : OkNames l :=
  ⟨h4, fun j s hs => h j s (by have := (List.getElem?_eq_some_iff.1 hs).1; omega) hs⟩

theorem rNames_con (l : AV) (ln : Nat) (hl : LS 1 IsS l ln) (hn : ln ≤ 9223372036854775807) (hsz : ∀ (i : Nat) t, (namesOf l)[i]? = some t → t.size ≤ 9223372036854775807) : Con 41 [l] (Sp1 41 [l]) := by
  have f_l := hl.flat
  have hnl := names_len hl
  refine con_ret (Sp := Sp1) Tryz.func41 rfl ?_
  show W (ES Sp1) _ _ ⟨[l] ++ List.replicate 29 .undef, []⟩
  have hh1 := @Has.nil ([] : Heap)
  refine W.seq (W.region ?_)
  refine WOps.run dr1 [(2, .bool false)] (by kernel_rfl) ?_
  refine WOps.e0 (Th_n (W.seq (W.seq (W.region ?_))))
  refine WOps.run dr1 [(4, l)] (by kernel_rfl) ?_
  refine o_vb (.int .i64 (ln : Nat)) (hl.len P48 _) (by kernel_rfl) ?_
  refine WOps.run dr1 [(6, .int .i64 0)] (by kernel_rfl) ?_
  refine WOps.e0 (Th_n (W.blk ?_))
  refine W.lp (fun T u T1 H1 => ∃ (t2 t3 t7 t8 t9 t10 t11 t12 t13 t14 t15 t16 t17 t18 t19 t20 t21 t22 t23 t24 t25 t26 : AV) (i : Nat), ups T [(2, t2), (3, t3), (6, .int .i64 (i : Nat)), (7, t7), (8, t8), (9, t9), (10, t10), (11, t11), (12, t12), (13, t13), (14, t14), (15, t15), (16, t16), (17, t17), (18, t18), (19, t19), (20, t20), (21, t21), (22, t22), (23, t23), (24, t24), (25, t25), (26, t26)] = T1 ∧ Has H1 [] ∧ i + u = ln ∧ OkUpto (namesOf l) i) (ln) ⟨.bool false, .undef, .undef, .undef, .undef, .undef, .undef, .undef, .undef, .undef, .undef, .undef, .undef, .undef, .undef, .undef, .undef, .undef, .undef, .undef, .undef, .undef, 0, by kernel_rfl, hh1.pick [] (by decide), Nat.zero_add _, fun j s hj => by omega⟩ ?_
  rintro u _ H2 ⟨t2, t3, t7, t8, t9, t10, t11, t12, t13, t14, t15, t16, t17, t18, t19, t20, t21, t22, t23, t24, t25, t26, i, rfl, hh3, hi, hall⟩
  refine W.seq (W.region ?_)
  by_cases hlt : i < ln
  · refine o_v2 (.bool (decide (((i : Nat) : Int) < ((ln : Nat) : Int)))) (.bool true) (congrArg AV.bool (decide_eq_true (by omega))) (by kernel_rfl) ?_
    refine WOps.e0 (Th_n (W.seq (W.condT (by kernel_rfl) (W.skip (Th_n (W.seq (W.blk (W.seq (W.region ?_)))))))))
    refine WOps.run dr2 [(8, .int .i64 (i : Nat)), (3, .int .i64 (i : Nat))] (by kernel_rfl) ?_
    refine WOps.e0 (Th_n (W.seq ?_))
    obtain ⟨pp, t, hpp, hld, ht⟩ := getName hl hlt
    obtain ⟨v, hsl, hvl, hvn⟩ := slice_names hl hlt
    have f_v := hvl.flat
    refine W.rl false hh3 [] (by decide) _ rfl (by kernel_rfl) ?_
    refine WD.run dr2 [(9, l), (10, .int .i64 (i : Nat))] (by kernel_rfl) ?_
    refine d_vk (pp) (hpp) (by kernel_rfl) ?_
    refine d_vl (.str t) (hld) (by kernel_rfl) ?_
    refine d_call (ys := [.str t]) hh3 [] (by decide) rfl (vflats rfl) (rValid_con t (hsz i t ht)) rfl (by kernel_rfl) fun z Oz hz => ?_
    obtain ⟨c, rfl, hc⟩ := hz
    cases c with
    | false =>
      refine WD.run (drx dr2) [(14, .bool true), (15, .bool true), (16, .undef), (17, .undef), (18, .undef), (19, .undef), (20, .undef), (21, .undef), (22, .undef), (23, .undef), (24, .undef), (25, .bool true)] (by kernel_rfl) ?_
      refine WD.e0 (Th_n (W.condT (by kernel_rfl) (W.seq (W.region ?_))))
      refine WOps.run dr1 [(2, .bool false)] (by kernel_rfl) ?_
      refine WOps.e0 (Th_n (W.ret (Bk_r (Th_r (Th_r (Bk_r (Th_r ?_)))))))
      exact ret_t (r' := .bool false) (⟨false, rfl, fun h => by simp at h, fun h => by have := hc.2 (h.2 i t ht).1; simp at this⟩) (.inr rfl) rfl (by kernel_rfl) (vflat rfl)
    | true =>
      refine WD.run dr4 [(14, .bool false), (15, .bool false), (16, l), (17, .int .i64 (i : Nat))] (by kernel_rfl) ?_
      refine d_vl (v) (hsl) (by kernel_rfl) ?_
      refine WD.run dr2 [(19, l), (20, .int .i64 (i : Nat))] (by kernel_rfl) ?_
      refine d_vk (pp) (hpp) (by kernel_rfl) ?_
      refine d_vl (.str t) (hld) (by kernel_rfl) ?_
      refine d_call (ys := [v, .str t]) hh3 [] (by decide) rfl (vflats (fc f_v (fc rfl fn0))) (last_con v i t hvl (by omega)) rfl (by kernel_rfl) fun w Ow hw => ?_
      obtain ⟨k, rfl, hk⟩ := hw
      rw [← namesOf, hvn] at hk
      by_cases hk0 : k ≥ 0
      · refine d_v2 (.bool (decide ((k : Int) ≥ (0 : Int)))) (.bool true) (congrArg AV.bool (decide_eq_true (hk0))) (by kernel_rfl) ?_
        refine WD.run dr1 [(25, .bool true)] (by kernel_rfl) ?_
        refine WD.e0 (Th_n (W.condT (by kernel_rfl) (W.seq (W.region ?_))))
        refine WOps.run dr1 [(2, .bool false)] (by kernel_rfl) ?_
        refine WOps.e0 (Th_n (W.ret (Bk_r (Th_r (Th_r (Bk_r (Th_r ?_)))))))
        exact ret_t (r' := .bool false) (⟨false, rfl, fun h => by simp at h, fun h => by obtain ⟨j, t', hj, h1, h2⟩ := mem_take.1 (hk.1 hk0); exact absurd h2 ((h.2 i t ht).2 j t' hj h1)⟩) (.inr rfl) rfl (by kernel_rfl) (vflat rfl)
      · refine d_v2 (.bool (decide ((k : Int) ≥ (0 : Int)))) (.bool false) (congrArg AV.bool (decide_eq_false (hk0))) (by kernel_rfl) ?_
        refine WD.run dr1 [(25, .bool false)] (by kernel_rfl) ?_
        refine WD.e0 (Th_n (W.condF (by kernel_rfl) (W.skip (Bk_n (Th_n (W.region ?_))))))
        refine o_v2 (.int .i64 (IntKind.i64.wrap (((i : Nat) : Int) + (1 : Int)))) (.int .i64 (((i + 1 : Nat) : Int))) (congrArg (AV.int .i64) (by rw [wrapN] <;> omega)) (by kernel_rfl) ?_
        refine WOps.run dr1 [(6, .int .i64 ((i + 1 : Nat) : Int))] (by kernel_rfl) ?_
        refine WOps.e0 (Th_n ?_)
        exact ⟨u - 1, by omega, t2, .int .i64 (i : Nat), .bool true, .int .i64 (i : Nat), l, .int .i64 (i : Nat), pp, .str t, .bool true, .bool false, .bool false, l, .int .i64 (i : Nat), v, l, .int .i64 (i : Nat), pp, .str t, .int .i64 k, .bool false, .bool false, .int .i64 ((i + 1 : Nat) : Int), i + 1, by kernel_rfl, hh3.pick [] (by decide), by omega, hall.succ ht (hc.1 rfl) (fun h => hk0 (hk.2 h))⟩
  · refine o_v2 (.bool (decide (((i : Nat) : Int) < ((ln : Nat) : Int)))) (.bool false) (congrArg AV.bool (decide_eq_false (by omega))) (by kernel_rfl) ?_
    refine WOps.e0 (Th_n (W.seq (W.condF (by kernel_rfl) (W.exit (Th_e (Th_e (Bk_s (Th_n (W.seq (W.region ?_))))))))))
    refine WOps.run dr1 [(27, l)] (by kernel_rfl) ?_
    refine o_vb (.int .i64 (ln : Nat)) (hl.len P48 _) (by kernel_rfl) ?_
    by_cases h4 : ln ≤ 4
    · refine o_v2 (.bool (decide (((ln : Nat) : Int) ≤ (4 : Int)))) (.bool true) (congrArg AV.bool (decide_eq_true (by omega))) (by kernel_rfl) ?_
      refine WOps.run dr1 [(2, .bool true)] (by kernel_rfl) ?_
      refine WOps.e0 (Th_n (W.ret ?_))
      exact ret_t (r' := .bool true) (⟨true, rfl, fun _ => hall.ok (by omega) (by omega), fun _ => rfl⟩) (.inr rfl) rfl (by kernel_rfl) (vflat rfl)
    · refine o_v2 (.bool (decide (((ln : Nat) : Int) ≤ (4 : Int)))) (.bool false) (congrArg AV.bool (decide_eq_false (by omega))) (by kernel_rfl) ?_
      refine WOps.run dr1 [(2, .bool false)] (by kernel_rfl) ?_
      refine WOps.e0 (Th_n (W.ret ?_))
      exact ret_t (r' := .bool false) (⟨false, rfl, fun h => by simp at h, fun h => absurd h.1 (by rw [← namesOf]; omega)⟩) (.inr rfl) rfl (by kernel_rfl) (vflat rfl)

theorem named_con (l : AV) (ln : Nat) (hl : LS 1 IsS l ln) (hn : ln ≤ 9223372036854775807) (hsz : ∀ (i : Nat) t, (namesOf l)[i]? = some t → t.size ≤ 9223372036854775807) : Con 94 [l] (Sp1 94 [l]) := by
  have f_l := hl.flat
  have hnl := names_len hl
  refine con_ret (Sp := Sp1) Tryz.func94 rfl ?_
  show W (ES Sp1) _ _ ⟨[l] ++ List.replicate 25 .undef, []⟩
  have hh4 := @Has.nil ([] : Heap)
  refine W.seq (W.region ?_)
  refine WOps.run dr1 [(2, .bool false)] (by kernel_rfl) ?_
  refine WOps.e0 (Th_n (W.seq (W.seq (W.region ?_))))
  refine WOps.run dr1 [(5, l)] (by kernel_rfl) ?_
  refine o_vb (.int .i64 (ln : Nat)) (hl.len P48 _) (by kernel_rfl) ?_
  by_cases h4 : ln > 4
  · refine o_v2 (.bool (decide (((ln : Nat) : Int) > (4 : Int)))) (.bool true) (congrArg AV.bool (decide_eq_true (by omega))) (by kernel_rfl) ?_
    refine WOps.e0 (Th_n (W.condT (by kernel_rfl) (W.seq (W.region ?_))))
    refine WOps.run dr1 [(2, .bool false)] (by kernel_rfl) ?_
    refine WOps.e0 (Th_n (W.ret (Th_r ?_)))
    exact ret_t (r' := .bool false) (⟨false, rfl, fun h => by simp at h, fun h => absurd h.1 (by rw [← namesOf]; omega)⟩) (.inr rfl) rfl (by kernel_rfl) (vflat rfl)
  · refine o_v2 (.bool (decide (((ln : Nat) : Int) > (4 : Int)))) (.bool false) (congrArg AV.bool (decide_eq_false (by omega))) (by kernel_rfl) ?_
    refine WOps.e0 (Th_n (W.condF (by kernel_rfl) (W.skip (Th_n (W.seq (W.seq (W.region ?_)))))))
    refine WOps.run dr1 [(8, l)] (by kernel_rfl) ?_
    refine o_vb (.int .i64 (ln : Nat)) (hl.len P48 _) (by kernel_rfl) ?_
    refine WOps.run dr1 [(10, .int .i64 0)] (by kernel_rfl) ?_
    refine WOps.e0 (Th_n (W.blk ?_))
    refine W.lp (fun T u T1 H1 => ∃ (t2 t3 t4 t11 t12 t13 t14 t15 t16 t17 t18 t19 t20 t21 t22 t23 t24 t25 : AV) (i : Nat), ups T [(2, t2), (3, t3), (4, t4), (10, .int .i64 (i : Nat)), (11, t11), (12, t12), (13, t13), (14, t14), (15, t15), (16, t16), (17, t17), (18, t18), (19, t19), (20, t20), (21, t21), (22, t22), (23, t23), (24, t24), (25, t25)] = T1 ∧ Has H1 [] ∧ i + u = ln ∧ OkUpto (namesOf l) i) (ln) ⟨.bool false, .undef, .undef, .undef, .undef, .undef, .undef, .undef, .undef, .undef, .undef, .undef, .undef, .undef, .undef, .undef, .undef, .undef, 0, by kernel_rfl, hh4.pick [] (by decide), Nat.zero_add _, fun j s hj => by omega⟩ ?_
    rintro u _ H5 ⟨t2, t3, t4, t11, t12, t13, t14, t15, t16, t17, t18, t19, t20, t21, t22, t23, t24, t25, i, rfl, hh6, hi, hall⟩
    refine W.seq (W.region ?_)
    by_cases hlt : i < ln
    · refine o_v2 (.bool (decide (((i : Nat) : Int) < ((ln : Nat) : Int)))) (.bool true) (congrArg AV.bool (decide_eq_true (by omega))) (by kernel_rfl) ?_
      refine WOps.e0 (Th_n (W.seq (W.condT (by kernel_rfl) (W.skip (Th_n (W.seq (W.blk (W.seq (W.region ?_)))))))))
      refine WOps.run dr1 [(12, .int .i64 (i : Nat))] (by kernel_rfl) ?_
      obtain ⟨pp, t, hpp, hld, ht⟩ := getName hl hlt
      obtain ⟨v, hsl, hvl, hvn⟩ := slice_names hl hlt
      have f_v := hvl.flat
      refine o_vk (pp) (hpp) (by kernel_rfl) ?_
      refine o_vk (.str t) ((hld) H5) (by kernel_rfl) ?_
      refine WOps.run dr2 [(3, .int .i64 (i : Nat)), (4, .str t)] (by kernel_rfl) ?_
      refine WOps.e0 (Th_n (W.seq (W.region ?_)))
      refine WOps.run dr1 [(15, .str t)] (by kernel_rfl) ?_
      refine o_call (ys := [.str t]) (vflats rfl) (pValid_con t (hsz i t ht)) rfl (by kernel_rfl) fun z Oz hz => ?_
      obtain ⟨c, rfl, hc⟩ := hz
      cases c with
      | false =>
        refine WOps.run dr8 [(17, .bool true), (18, .bool true), (19, .undef), (20, .undef), (21, .undef), (22, .undef), (23, .undef), (24, .bool true)] (by kernel_rfl) ?_
        refine WOps.e0 (Th_n (W.condT (by kernel_rfl) (W.seq (W.region ?_))))
        refine WOps.run dr1 [(2, .bool false)] (by kernel_rfl) ?_
        refine WOps.e0 (Th_n (W.ret (Bk_r (Th_r (Th_r (Bk_r (Th_r ?_)))))))
        exact ret_t (r' := .bool false) (⟨false, rfl, fun h => by simp at h, fun h => by have := hc.2 (h.2 i t ht).1; simp at this⟩) (.inr rfl) rfl (by kernel_rfl) (vflat rfl)
      | true =>
        refine WOps.run dr4 [(17, .bool false), (18, .bool false), (19, l), (20, .int .i64 (i : Nat))] (by kernel_rfl) ?_
        refine o_vk (v) ((hsl) H5) (by kernel_rfl) ?_
        refine WOps.run dr1 [(22, .str t)] (by kernel_rfl) ?_
        refine o_call (ys := [v, .str t]) (vflats (fc f_v (fc rfl fn0))) (Contains_con v i t hvl (by omega)) rfl (by kernel_rfl) fun w Ow hw => ?_
        obtain ⟨k, rfl, hk⟩ := hw
        refine WOps.run dr1 [(24, .bool k)] (by kernel_rfl) ?_
        refine WOps.e0 (Th_n ?_)
        rw [← namesOf, hvn] at hk
        cases k with
        | true =>
          refine W.condT (by kernel_rfl) (W.seq (W.region ?_))
          refine WOps.run dr1 [(2, .bool false)] (by kernel_rfl) ?_
          refine WOps.e0 (Th_n (W.ret (Bk_r (Th_r (Th_r (Bk_r (Th_r ?_)))))))
          exact ret_t (r' := .bool false) (⟨false, rfl, fun h => by simp at h, fun h => by obtain ⟨j, t', hj, h1, h2⟩ := mem_take.1 (hk.1 rfl); exact absurd h2 ((h.2 i t ht).2 j t' hj h1)⟩) (.inr rfl) rfl (by kernel_rfl) (vflat rfl)
        | false =>
          refine W.condF (by kernel_rfl) (W.skip (Bk_n (Th_n (W.region ?_))))
          refine o_v2 (.int .i64 (IntKind.i64.wrap (((i : Nat) : Int) + (1 : Int)))) (.int .i64 (((i + 1 : Nat) : Int))) (congrArg (AV.int .i64) (by rw [wrapN] <;> omega)) (by kernel_rfl) ?_
          refine WOps.run dr1 [(10, .int .i64 ((i + 1 : Nat) : Int))] (by kernel_rfl) ?_
          refine WOps.e0 (Th_n ?_)
          exact ⟨u - 1, by omega, t2, .int .i64 (i : Nat), .str t, .bool true, .int .i64 (i : Nat), pp, .str t, .str t, .bool true, .bool false, .bool false, l, .int .i64 (i : Nat), v, .str t, .bool false, .bool false, .int .i64 ((i + 1 : Nat) : Int), i + 1, by kernel_rfl, hh6.pick [] (by decide), by omega, hall.succ ht (hc.1 rfl) (fun h => by have := hk.2 h; simp at this)⟩
    · refine o_v2 (.bool (decide (((i : Nat) : Int) < ((ln : Nat) : Int)))) (.bool false) (congrArg AV.bool (decide_eq_false (by omega))) (by kernel_rfl) ?_
      refine WOps.e0 (Th_n (W.seq (W.condF (by kernel_rfl) (W.exit (Th_e (Th_e (Bk_s (Th_n (W.seq (W.region ?_))))))))))
      refine WOps.run dr1 [(2, .bool true)] (by kernel_rfl) ?_
      refine WOps.e0 (Th_n (W.ret ?_))
      exact ret_t (r' := .bool true) (⟨true, rfl, fun _ => hall.ok (by omega) (by omega), fun _ => rfl⟩) (.inr rfl) rfl (by kernel_rfl) (vflat rfl)

end Go.AX
