/- AX, part 39: polynomials: copied. -/
import Derived.Test.YtkkdpjmefjampaaGreatB2
set_option linter.unusedVariables false
set_option linter.unusedSimpArgs false
set_option maxRecDepth 4000
namespace Go.AX
open Go Go.RowKit Go.Proofs

theorem scale_spec {c2 : Bool} {y : AV} {l L n m : Nat} {q : List AV} (hq : CV l L n q) (hy : NV m y) (hL : L ≤ 2 ^ 37) (hn : n ≤ 2 ^ 37) (hm : m ≤ 2 ^ 37) : Con 150 [.agg q, .agg [.bool c2, y]] (Spec 150 [.agg q, .agg [.bool c2, y]]) :=
  scale_spec_of hq hy hL hn hm fun x L n m hx h1 h2 h3 h4 h5 => scale_con c2 y x L n m q h1 h2 h3 h4 h5

theorem copied_con (l L n : Nat) (p : List AV) (hp : CV l L n p) (hL : L ≤ 2 ^ 37) (hn : n ≤ 2 ^ 37) : Con 89 [.agg p] (fun r => ∃ cs, r = .agg cs ∧ CV l L (n + 2) cs) := by
  have hp' := hp
  obtain ⟨lv, ng, a, b, rfl, ha, hb⟩ := hp.pv
  have oa := one_nv ha
  have ob := one_flat hb
  refine con_of Tryz.func89 rfl ?_
  show W ET _ _ ⟨[.agg [.int .i64 lv, .bool ng, a, b]] ++ List.replicate 5 .undef, []⟩
  generalize hT : [.agg [.int .i64 lv, .bool ng, a, b]] ++ List.replicate 5 AV.undef = T
  have hl : T.length = 6 := by subst hT; rfl
  have h0 : T.getD 0 .undef = .agg [.int .i64 lv, .bool ng, a, b] := by subst hT; rfl
  clear hT
  refine W.seqk fun K hK => W.region ?_
  refine WOps.cons rfl fun K_ hK_ => ?_
  simp (config := { decide := true }) only [WOne, calleeOf, axOp, ev, okk_some, put, if_true, List.length_nil, newA, cells_agg, one_bool, one_int, List.all_cons, List.all_nil, Bool.and_self, List.nil_append, h0, oa, ob]
  refine hK_ _ ?_
  clear hK_
  refine WOps.cons rfl fun K_ hK_ => ?_
  simp (config := { decide := true }) only [WOne, calleeOf, axOp, okk_some, put, if_true, et_P, List.length_cons, List.length_nil, Nat.zero_add, newA, cells_agg, zero29, List.cons_append, List.nil_append]
  refine hK_ _ ?_
  clear hK_
  simp only [WOps]
  refine hK _ ?_
  clear hK
  have hA0 : (fun K : Heap => K[0]? = some (.cells [.int .i64 lv, .bool ng, a, b])) [.cells [.int .i64 lv, .bool ng, a, b], .cells [.int .i64 0, .bool false, .nilsl, .nilsl]] := rfl
  refine W.seqk fun K hK => W.regionl (fun K : Heap => K[0]? = some (.cells [.int .i64 lv, .bool ng, a, b])) false (by kernel_rfl) hA0 ?_
  have hAof : ∀ K : Heap, (K[0]? = some (.cells [.int .i64 lv, .bool ng, a, b])) ∨ K = [.cells [.int .i64 lv, .bool ng, a, b], .cells [.int .i64 0, .bool false, .nilsl, .nilsl]] → K[0]? = some (.cells [.int .i64 lv, .bool ng, a, b]) := by
    rintro K (h | rfl)
    · exact h
    · rfl
  refine WD.quiet rfl rfl (fun K_ hK_ => by
    have hA_ := hAof K_ (hK_.elim .inl fun e => .inr (by simpa using e))
    simp (config := { decide := true }) only [axOp, ev, keep, if_true, getD_self, getD_ne, size29, agg29, et_P, loadA, readAt, List.drop_zero, List.take_succ_cons, List.take_zero, List.length_cons, List.length_nil, Nat.zero_add, Nat.reduceAdd, Nat.reduceLeDiff, hl, hA_]
    try exact rfl) rfl ?_
  refine WD.loud rfl rfl fun K_ hK_ => ?_
  simp (config := { decide := true }) only [WOne, calleeOf, ev, evs, ofValue]
  refine call_known (by decide) (viewL_words1 _ _ _) (iOf_con 1) fun z hz => ?_
  simp only [AX.kill]
  refine hK_ _ _ (fun _ => hA0) ?_
  clear hK_
  obtain ⟨zb, z, rfl, hz2⟩ := hz
  have oz := one_nv hz2
  refine WD.loud rfl rfl fun K_ hK_ => ?_
  simp (config := { decide := true }) only [WOne, calleeOf, ev, evs, put, getD_self, getD_ne, List.length_set, hl]
  refine call_known (by decide) (viewL_two (view_cv hp' _) (view_iv hz2 _ _)) (scale_spec hp' hz2 hL hn (by decide)) fun w hw => ?_
  simp only [AX.kill, List.append_nil]
  refine hK_ _ _ (fun _ => hA0) ?_
  clear hK_
  obtain ⟨zc, rfl, hcv⟩ := hw l L n 2 hp' ⟨zb, z, rfl, hz2⟩
  obtain ⟨lv2, ng2, a2, b2, rfl, ha2, hb2⟩ := hcv.pv
  have oa2 := one_nv ha2
  have ob2 := one_flat hb2
  refine WD.loud rfl rfl fun K_ hK_ => ?_
  simp (config := { decide := true }) only [WOne, List.getElem?_cons_zero, List.getElem?_cons_succ, calleeOf, axOp, ev, okk_some, put, if_true, getD_self, getD_ne, List.length_set, size29, et_P, decide_true, List.drop_succ_cons, List.drop_zero, List.take_zero, List.length_cons, List.length_nil, Nat.zero_add, Nat.reduceAdd, Nat.reduceLeDiff, cells_agg, one_bool, one_int, List.all_cons, List.all_nil, Bool.and_self, List.nil_append, List.append_nil, storeA, writeAt, List.set_cons_zero, List.set_cons_succ, hl, oa2, ob2]
  refine hK_ _ _ (fun h => absurd h (by decide)) ?_
  clear hK_
  simp only [WD]
  refine hK _ (W.ret ⟨.inr rfl, .agg [.int .i64 lv2, .bool ng2, a2, b2], ?_, _, [], view_cv hcv _, _, rfl, hcv⟩)
  simp (config := { decide := true }) only [List.getElem?_cons_zero, List.getElem?_cons_succ, put, if_true, getD_self, getD_ne, List.length_set, size29, agg29, loadA, readAt, List.drop_zero, List.take_succ_cons, List.take_zero, List.length_cons, List.length_nil, Nat.zero_add, Nat.reduceAdd, Nat.reduceLeDiff, resultsA, Tryz.results89, resultsL, hl]

end Go.AX

/- AX, part 40: polynomials: sums of lists. -/
set_option linter.unusedVariables false
set_option linter.unusedSimpArgs false
set_option maxRecDepth 4000
namespace Go.AX
open Go Go.RowKit Go.Proofs

/-- Cells in groups of four, each by its place. -/
def GrpI (len : Nat) (P : Nat → List AV → Prop) (cs : List AV) : Prop := cs.length = len * 4 ∧ ∀ i, i < len → P i ((cs.drop (i * 4)).take 4)

theorem GrpI.set {len i : Nat} {P P' : Nat → List AV → Prop} {cs q : List AV} (h : GrpI len P cs) (hi : i < len) (hq : P' i q) (hl : q.length = 4) (hp : ∀ j c, j ≠ i → P j c → P' j c) : GrpI len P' (cs.take (i * 4) ++ (q ++ cs.drop (i * 4 + 4))) := by
  obtain ⟨h1, h2⟩ := h
  refine ⟨by simp [List.length_append, List.length_take, List.length_drop, hl]; omega, fun j hj => ?_⟩
  have htl : (cs.take (i * 4)).length = i * 4 := by rw [List.length_take]; omega
  by_cases hji : j = i
  · subst hji
    have : ((cs.take (j * 4) ++ (q ++ cs.drop (j * 4 + 4))).drop (j * 4)).take 4 = q := by
      rw [List.drop_left' htl, List.take_left' hl]
    rw [this]; exact hq
  · have : ((cs.take (i * 4) ++ (q ++ cs.drop (i * 4 + 4))).drop (j * 4)).take 4 = (cs.drop (j * 4)).take 4 := by
      refine List.ext_getElem? fun t => ?_
      by_cases ht : t < 4
      · rw [List.getElem?_take_of_lt ht, List.getElem?_take_of_lt ht, List.getElem?_drop, List.getElem?_drop]
        rcases Nat.lt_or_gt_of_ne hji with hlt | hgt
        · rw [List.getElem?_append_left (by omega), List.getElem?_take_of_lt (by omega)]
        · rw [List.getElem?_append_right (by omega), List.getElem?_append_right (by omega), List.getElem?_drop, htl, hl]
          congr 1
          omega
      · rw [List.getElem?_eq_none (by rw [List.length_take]; omega), List.getElem?_eq_none (by rw [List.length_take]; omega)]
    rw [this]; exact hp j _ hji (h2 j hj)

theorem GrpI.push {len : Nat} {P P' : Nat → List AV → Prop} {cs q : List AV} (h : GrpI len P cs) (hq : P' len q) (hl : q.length = 4) (hp : ∀ j c, j < len → P j c → P' j c) : GrpI (len + 1) P' (cs ++ q) := by
  obtain ⟨h1, h2⟩ := h
  refine ⟨by simp [h1, hl]; omega, fun j hj => ?_⟩
  by_cases hji : j = len
  · subst hji
    have : ((cs ++ q).drop (j * 4)).take 4 = q := by
      rw [List.drop_left' h1, List.take_of_length_le (by omega)]
    rw [this]; exact hq
  · have : ((cs ++ q).drop (j * 4)).take 4 = (cs.drop (j * 4)).take 4 := by
      rw [List.drop_append_of_le_length (by omega), List.take_append_of_le_length (by rw [List.length_drop]; omega)]
    rw [this]; exact hp j _ (by omega) (h2 j (by omega))

theorem store29I {H : Heap} {id len i : Nat} {P P' : Nat → List AV → Prop} {cs q : List AV} (hc : H[id]? = some (.cells cs)) (h : GrpI len P cs) (hi : i < len) (hq : P' i q) (hl : q.length = 4) (hf : ∀ c ∈ q, isFlat c = true) (hp : ∀ j c, j ≠ i → P j c → P' j c) :
    ∃ cs', storeA Tryz.prog H 29 (.ptr id (0 + i * 4)) (.agg q) = some (H.set id (.cells cs')) ∧ GrpI len P' cs' := by
  refine ⟨_, ?_, h.set hi hq hl hp⟩
  have h1 := h.1
  have : i * 4 + 4 ≤ cs.length := by omega
  simp [storeA, hc, size29, AV.cells, hl, writeAt, this]
  exact fun c hc => one_flat (hf c hc)

theorem load29I {H : Heap} {id len i : Nat} {P : Nat → List AV → Prop} {cs : List AV} (hc : H[id]? = some (.cells cs)) (h : GrpI len P cs) (hi : i < len) : loadA Tryz.prog H 29 (.ptr id (0 + i * 4)) = some (.agg ((cs.drop (i * 4)).take 4)) := by
  have h1 := h.1
  have : i * 4 + 4 ≤ cs.length := by omega
  simp [loadA, hc, readAt, agg29, size29, this]

/-- The list that sum gathers. -/
def Out (s : St) (len : Nat) (P : Nat → List AV → Prop) : Prop :=
  (len = 0 ∧ s.T.getD 3 .undef = .nilsl) ∨ ∃ id cs, s.T.getD 3 .undef = .sl id 0 len 4 none ∧ s.H[id]? = some (.cells cs) ∧ GrpI len P cs ∧ (∀ c ∈ cs, isFlat c = true)

theorem Out.len {T : List AV} {H : Heap} {len : Nat} {P : Nat → List AV → Prop} (h : Out ⟨T, H⟩ len P) : ∀ K, builtinA Tryz.prog .len [27] K [T.getD 3 .undef] = some (.int .i64 (len : Nat), K) := by
  intro K
  rcases h with ⟨rfl, h⟩ | ⟨id, cs, h, _⟩ <;> simp only at h <;> rw [h] <;> simp [builtinA]

/-- One more element. -/
theorem append_one {T : List AV} {H : Heap} {len : Nat} {P P' : Nat → List AV → Prop} {q : List AV} (h : Out ⟨T, H⟩ len P) (hq : P' len q) (hl : q.length = 4) (hf : ∀ c ∈ q, isFlat c = true) (hp : ∀ j c, j < len → P j c → P' j c) (hlen : len ≤ 2 ^ 38) :
    ∃ id H' cs, builtinA Tryz.prog .append [27, 27] (H ++ [.cells q]) [T.getD 3 .undef, .sl H.length 0 1 4 (some 1)] = some (.sl id 0 (len + 1) 4 none, H') ∧ H'[id]? = some (.cells cs) ∧ GrpI (len + 1) P' cs ∧ (∀ c ∈ cs, isFlat c = true) := by
  have hone := all_one_flat hf
  have hroom : (len + 1) * 64 ≤ roomA := by unfold roomA; omega
  have hroom1 : 1 * 64 ≤ roomA := by unfold roomA; omega
  have hblk : (H ++ [Blk.cells q])[H.length]? = some (.cells q) := by simp
  have hnew : cellsOf (H ++ [Blk.cells q]) 4 1 (.sl H.length 0 1 4 (some 1)) = some q := by
    simp only [cellsOf, hblk]
    rw [if_pos (by omega), List.drop_zero, List.take_of_length_le (by omega)]
  rcases h with ⟨rfl, h⟩ | ⟨id, cs, h, hc, hg, hfc⟩
  · simp only at h
    refine ⟨(H ++ [Blk.cells q]).length, H ++ [Blk.cells q] ++ [.cells q], q, ?_, by simp, ?_, hf⟩
    · rw [h]
      simp only [builtinA, appendA, P27, size29, bytes29, lenA, hnew, hone, zero29, Option.all_some, AV.cells, List.length_cons, List.length_nil]
      simp [hroom1]
    · refine ⟨by omega, fun i hi => ?_⟩
      have : i = 0 := by omega
      subst this
      rw [Nat.zero_mul, List.drop_zero, List.take_of_length_le (by omega)]
      exact hq
  · simp only at h hc
    have hlt : id < H.length := (List.getElem?_eq_some_iff.1 hc).1
    have hc' : (H ++ [Blk.cells q])[id]? = some (.cells cs) := by rw [List.getElem?_append_left hlt]; exact hc
    have hold : cellsOf (H ++ [Blk.cells q]) 4 len (.sl id 0 len 4 none) = some cs := by
      have := hg.1
      simp only [cellsOf, hc']
      rw [if_pos (by omega), List.drop_zero, List.take_of_length_le (by omega)]
    refine ⟨(H ++ [Blk.cells q]).length, (H ++ [Blk.cells q]).set id .dead ++ [.cells (cs ++ q)], cs ++ q, ?_, ?_, hg.push hq hl hp, ?_⟩
    · rw [h]
      simp only [builtinA, appendA, P27, size29, bytes29, lenA, hnew, hold, hone, zero29, Option.all_some, AV.cells, List.length_cons, List.length_nil]
      simp [hroom]
    · rw [List.getElem?_append_right (by simp)]
      simp
    · intro c hc
      rcases List.mem_append.1 hc with h | h
      · exact hfc c h
      · exact hf c h

end Go.AX

/- AX, part 41: polynomials: sum. -/
set_option linter.unusedVariables false
set_option linter.unusedSimpArgs false
set_option maxRecDepth 4000
namespace Go.AX
open Go Go.RowKit Go.Proofs

theorem Out.grow {T T1 : List AV} {H : Heap} {len : Nat} {P P' : Nat → List AV → Prop} {b : Blk} (h : Out ⟨T, H⟩ len P) (ht : T1.getD 3 .undef = T.getD 3 .undef) (hp : ∀ j c, P j c → P' j c) : Out ⟨T1, H ++ [b]⟩ len P' := by
  rcases h with ⟨h1, h2⟩ | ⟨id, cs, h1, h2, h3, h4⟩
  · exact .inl ⟨h1, by simp only at h2 ⊢; rw [ht]; exact h2⟩
  · simp only at h1 h2
    have hlt : id < H.length := (List.getElem?_eq_some_iff.1 h2).1
    exact .inr ⟨id, cs, by simp only; rw [ht]; exact h1, by simp only; rw [List.getElem?_append_left hlt]; exact h2, ⟨h3.1, fun i hi => hp i _ (h3.2 i hi)⟩, h4⟩

theorem Out.same {T T1 : List AV} {H : Heap} {len : Nat} {P P' : Nat → List AV → Prop} (h : Out ⟨T, H⟩ len P) (ht : T1.getD 3 .undef = T.getD 3 .undef) (hp : ∀ j c, j < len → P j c → P' j c) : Out ⟨T1, H⟩ len P' := by
  rcases h with ⟨h1, h2⟩ | ⟨id, cs, h1, h2, h3, h4⟩
  · exact .inl ⟨h1, by simp only at h2 ⊢; rw [ht]; exact h2⟩
  · exact .inr ⟨id, cs, by simp only at h1 ⊢; rw [ht]; exact h1, h2, ⟨h3.1, fun i hi => hp i _ hi (h3.2 i hi)⟩, h4⟩

/-- Where sum stands with m lists to come. -/
def SumI (l L n la lb : Nat) (A B : AV) (cap : Option Nat) (m : Nat) (s : St) : Prop :=
  s.T.length = 41 ∧ s.T.getD 8 .undef = .lst [A, B] 2 cap ∧ s.T.getD 9 .undef = .int .i64 2 ∧ ((m = 2 ∧ s.T.getD 10 .undef = .int .i64 0 ∧ Out s 0 (fun _ => CV l L n)) ∨ (m = 1 ∧ s.T.getD 10 .undef = .int .i64 1 ∧ Out s la (fun _ => CV l L n)) ∨ (m = 0 ∧ s.T.getD 10 .undef = .int .i64 2 ∧ Out s (max la lb) (fun _ => CV l L (n + 1))))

theorem sum_con (l L n la lb : Nat) (A B : AV) (cap : Option Nat) (hA : PL l L n A la) (hB : PL l L n B lb) (h1 : 1 ≤ la) (hL : L ≤ 2 ^ 36) (hL1 : 1 ≤ L)
    (hadd : ∀ p q, CV l L n p → CV l L n q → Con 90 [.agg p, .agg q] (Spec 90 [.agg p, .agg q])) : Con 152 [.lst [A, B] 2 cap] (fun r => ∃ len, 1 ≤ len ∧ PL l L (n + 1) r len) := by
  have hfa := hA.flat
  have hfb := hB.flat
  have hla : la ≤ L := by obtain ⟨_, _, _, _, h, _⟩ := hA; exact h
  have hlb : lb ≤ L := by obtain ⟨_, _, _, _, h, _⟩ := hB; exact h
  refine con_of Tryz.func152 rfl ?_
  show W ET _ _ ⟨[.lst [A, B] 2 cap] ++ List.replicate 40 .undef, []⟩
  generalize hT : [.lst [A, B] 2 cap] ++ List.replicate 40 AV.undef = T
  have hl : T.length = 41 := by subst hT; rfl
  have h0 : T.getD 0 .undef = .lst [A, B] 2 cap := by subst hT; rfl
  clear hT
  have hlen2 : ∀ H, builtinA Tryz.prog .len [239] H [.lst [A, B] 2 cap] = some (.int .i64 2, H) := fun H => by simp [builtinA]
  refine W.seqk fun K hK => W.region ?_
  refine WOps.cons rfl fun K_ hK_ => ?_
  simp (config := { decide := true }) only [WOne, calleeOf, axOp, ev, keep, okk_some, put, ofValue]
  refine hK_ _ ?_
  clear hK_
  simp only [WOps]
  refine hK _ ?_
  clear hK
  refine W.seqk fun K hK => W.region ?_
  refine WOps.cons rfl fun K_ hK_ => ?_
  simp (config := { decide := true }) only [WOne, calleeOf, axOp, ev, keep, okk_some, put, ofValue]
  refine hK_ _ ?_
  clear hK_
  simp only [WOps]
  refine hK _ ?_
  clear hK
  refine W.seqk fun K1 hK1 => ?_
  refine W.seqk fun K hK => W.region ?_
  refine WOps.cons rfl fun K_ hK_ => ?_
  simp (config := { decide := true }) only [WOne, calleeOf, axOp, ev, keep, okk_some, put, getD_ne, h0]
  refine hK_ _ ?_
  clear hK_
  refine WOps.cons rfl fun K_ hK_ => ?_
  simp (config := { decide := true }) only [WOne, calleeOf, axOp, ev, evs, okk_some, put, getD_self, List.length_set, et_P, hl, hlen2]
  refine hK_ _ ?_
  clear hK_
  refine WOps.cons rfl fun K_ hK_ => ?_
  simp (config := { decide := true }) only [WOne, calleeOf, axOp, ev, keep, okk_some, put, ofValue]
  refine hK_ _ ?_
  clear hK_
  simp only [WOps]
  refine hK _ ?_
  clear hK
  refine W.block (W.loop (SumI l L n la lb A B cap) (n := 2) ?_ ?_)
  · refine ⟨?_, ?_, ?_, .inl ⟨rfl, ?_, .inl ⟨rfl, ?_⟩⟩⟩ <;> simp (config := { decide := true }) only [getD_self, getD_ne, List.length_set, hl]
  · clear hl h0
    rintro m ⟨T', H'⟩ ⟨hl', h8', h9', hcase⟩
    simp only at hl' h8' h9' hcase
    have hcase2 : (m = 0 ∧ T'.getD 10 .undef = .int .i64 2 ∧ Out ⟨T', H'⟩ (max la lb) (fun _ => CV l L (n + 1))) ∨ ∃ X o lx m0, PL l L n X lx ∧ lx ≤ L ∧ m0 ≤ L ∧ T'.getD 10 .undef = .int .i64 ((o : Nat) : Int) ∧ o < 2 ∧ (∃ p, indexAddrA Tryz.prog 239 (.lst [A, B] 2 cap) o = some p ∧ ∀ H, loadA Tryz.prog H 27 p = some X) ∧ Out ⟨T', H'⟩ m0 (fun _ => CV l L n) ∧
        (∀ s : St, s.T.length = 41 → s.T.getD 8 .undef = .lst [A, B] 2 cap → s.T.getD 9 .undef = .int .i64 2 → s.T.getD 10 .undef = .int .i64 ((o + 1 : Nat) : Int) → Out s (max m0 lx) (fun j c => if j < lx ∧ j < m0 then CV l L (n + 1) c else CV l L n c) → ∃ m', m' < m ∧ SumI l L n la lb A B cap m' s) := by
      rcases hcase with ⟨rfl, h10, ho⟩ | ⟨rfl, h10, ho⟩ | ⟨rfl, h10, ho⟩
      · refine .inr ⟨A, 0, la, 0, hA, hla, by omega, h10, by decide, ⟨.cptr [A, B], ?_, fun H => ?_⟩, ho, fun s g1 g2 g3 g4 g5 => ⟨1, by decide, g1, g2, g3, .inr (.inl ⟨rfl, g4, ?_⟩)⟩⟩
        · simp [indexAddrA, size27]
        · simp [loadA, readAt, agg27]
        · obtain ⟨T1, H1⟩ := s
          rw [Nat.zero_max] at g5
          exact g5.same rfl fun j c _ h => by simpa using h
      · refine .inr ⟨B, 1, lb, la, hB, hlb, hla, h10, by decide, ⟨.cptr [B], ?_, fun H => ?_⟩, ho, fun s g1 g2 g3 g4 g5 => ⟨0, by decide, g1, g2, g3, .inr (.inr ⟨rfl, g4, ?_⟩)⟩⟩
        · simp [indexAddrA, size27]
        · simp [loadA, readAt, agg27]
        · obtain ⟨T1, H1⟩ := s
          refine g5.same rfl fun j c _ h => ?_
          split at h
          · exact h
          · exact CV.mono (Nat.le_refl _) (by omega) h
      · exact .inl ⟨rfl, h10, ho⟩
    rcases hcase2 with ⟨rfl, h10, ho⟩ | ⟨X, o, lx, m0, hX, hlx, hm0, h10, ho2, ⟨px, hpx, hldx⟩, ho, hnext⟩
    · have hb1 : ((2 : Int) < 2) = False := by simp
      refine W.seqk fun K hK => W.region ?_
      refine WOps.cons rfl fun K_ hK_ => ?_
      simp (config := { decide := true }) only [WOne, calleeOf, axOp, ev, keep, okk_some, put, if_true, binA, intOp, decide_false, h9', h10]
      refine hK_ _ ?_
      clear hK_
      simp only [WOps]
      refine hK _ ?_
      clear hK
      refine W.seqk fun K hK => W.cond (b := false) (by simp (config := { decide := true }) only [ev, getD_self, hl']) (fun h => by simp at h) (fun _ => W.exit ?_)
      simp only [Th, outOf, if_true]
      refine hK1 _ ?_
      clear hK1
      rcases ho with ⟨hz, _⟩ | ⟨id, cs, h3', hc, hg, hf⟩
      · omega
      simp only at h3' hc
      refine W.seqk fun K hK => W.region ?_
      refine WOps.cons rfl fun K_ hK_ => ?_
      simp (config := { decide := true }) only [WOne, calleeOf, axOp, ev, keep, okk_some, put, getD_ne, h3']
      refine hK_ _ ?_
      clear hK_
      refine WOps.cons rfl fun K_ hK_ => ?_
      simp (config := { decide := true }) only [WOne, calleeOf, axOp, ev, keep, okk_some, put, getD_self, List.length_set, hl']
      refine hK_ _ ?_
      clear hK_
      simp only [WOps]
      refine hK _ ?_
      clear hK
      refine W.ret ⟨.inr rfl, .sl id 0 (max la lb) 4 none, ?_, .lst cs (max la lb) none, [id], ?_, max la lb, by omega, cs, none, rfl, hg.1, by omega, hg.2⟩
      · simp (config := { decide := true }) only [getD_self, List.length_set, resultsA, Tryz.results152, resultsL, hl']
      · have := hg.1
        rw [view_slflat (cs := cs) hc (by omega) hf, List.drop_zero, List.take_of_length_le (by omega)]
    · clear hcase hK1
      have hb1 : (((o : Nat) : Int) < 2) = True := by simp; omega
      have hw0 : IntKind.i64.wrap ((o : Int) + 1) = ((o + 1 : Nat) : Int) := by rw [wrapN] <;> omega
      refine W.seqk fun K hK => W.region ?_
      refine WOps.cons rfl fun K_ hK_ => ?_
      simp (config := { decide := true }) only [WOne, calleeOf, axOp, ev, keep, okk_some, put, if_true, binA, intOp, decide_true, h9', h10, hb1]
      refine hK_ _ ?_
      clear hK_
      simp only [WOps]
      refine hK _ ?_
      clear hK
      refine W.seqk fun K hK => W.cond (b := true) (by simp (config := { decide := true }) only [ev, getD_self, hl']) (fun _ => ?_) (fun h => by simp at h)
      refine W.skip (hK _ ?_)
      clear hK
      refine W.seqk fun K2 hK2 => W.block ?_
      refine W.seqk fun K hK => W.region ?_
      refine WOps.cons rfl fun K_ hK_ => ?_
      simp (config := { decide := true }) only [WOne, calleeOf, axOp, ev, keep, okk_some, put, getD_ne, Option.bind_some, et_P, h8', h10, asNat_nat, hpx]
      refine hK_ _ ?_
      clear hK_
      refine WOps.cons rfl fun K_ hK_ => ?_
      simp (config := { decide := true }) only [WOne, calleeOf, axOp, ev, keep, okk_some, put, getD_self, List.length_set, et_P, hl', hldx]
      refine hK_ _ ?_
      clear hK_
      refine WOps.cons rfl fun K_ hK_ => ?_
      simp (config := { decide := true }) only [WOne, calleeOf, axOp, ev, keep, okk_some, put, getD_self, List.length_set, hl']
      refine hK_ _ ?_
      clear hK_
      simp only [WOps]
      refine hK _ ?_
      clear hK
      refine W.seqk fun K hK => W.region ?_
      refine WOps.cons rfl fun K_ hK_ => ?_
      simp (config := { decide := true }) only [WOne, calleeOf, axOp, ev, keep, okk_some, put, getD_self, List.length_set, hl']
      refine hK_ _ ?_
      clear hK_
      refine WOps.cons rfl fun K_ hK_ => ?_
      simp (config := { decide := true }) only [WOne, calleeOf, axOp, ev, evs, okk_some, put, getD_self, List.length_set, et_P, hl', hX.len]
      refine hK_ _ ?_
      clear hK_
      refine WOps.cons rfl fun K_ hK_ => ?_
      simp (config := { decide := true }) only [WOne, calleeOf, axOp, ev, keep, okk_some, put, ofValue]
      refine hK_ _ ?_
      clear hK_
      simp only [WOps]
      refine hK _ ?_
      clear hK
      refine W.block (W.loop (fun j s => s.T.length = 41 ∧ s.T.getD 8 .undef = .lst [A, B] 2 cap ∧ s.T.getD 9 .undef = .int .i64 2 ∧ s.T.getD 10 .undef = .int .i64 ((o : Nat) : Int) ∧ s.T.getD 14 .undef = X ∧ s.T.getD 15 .undef = .int .i64 lx ∧ ∃ i : Nat, i + j = lx ∧ s.T.getD 16 .undef = .int .i64 i ∧ Out s (max m0 i) (fun j c => if j < i ∧ j < m0 then CV l L (n + 1) c else CV l L n c)) (n := lx) ?_ ?_)
      · refine ⟨?_, ?_, ?_, ?_, ?_, ?_, 0, Nat.zero_add _, ?_, ?_⟩
        rotate_right
        · rw [Nat.max_zero]
          exact ho.same (by simp (config := { decide := true }) only [getD_ne]) fun j c _ h => by simpa using h
        all_goals simp (config := { decide := true }) only [getD_self, getD_ne, List.length_set, hl', h8', h9', h10, Int.natCast_zero]
      · clear hl' h8' h9' h10 ho
        rintro j ⟨T2, H2⟩ ⟨hl', h8', h9', h10, h14, h15, i, hij, h16, ho⟩
        simp only at hl' h8' h9' h10 h14 h15 h16
        by_cases hlt : i < lx
        · have hb2 : ((i : Int) < (lx : Int)) = True := by simp [hlt]
          have hw1 : IntKind.i64.wrap ((i : Int) + 1) = ((i + 1 : Nat) : Int) := by rw [wrapN] <;> omega
          obtain ⟨p, q, hp, hld, hq⟩ := hX.get hlt
          have hq4 := cv_len hq
          have hqf := pv_flat hq.pv
          refine W.seqk fun K hK => W.region ?_
          refine WOps.cons rfl fun K_ hK_ => ?_
          simp (config := { decide := true }) only [WOne, calleeOf, axOp, ev, keep, okk_some, put, if_true, binA, intOp, decide_true, h15, h16, hb2]
          refine hK_ _ ?_
          clear hK_
          simp only [WOps]
          refine hK _ ?_
          clear hK
          refine W.seqk fun K hK => W.cond (b := true) (by simp (config := { decide := true }) only [ev, getD_self, hl']) (fun _ => ?_) (fun h => by simp at h)
          refine W.skip (hK _ ?_)
          clear hK
          refine W.seqk fun K3 hK3 => W.block ?_
          refine W.seqk fun K hK => W.region ?_
          refine WOps.cons rfl fun K_ hK_ => ?_
          simp (config := { decide := true }) only [WOne, calleeOf, axOp, ev, keep, okk_some, put, getD_ne, h16]
          refine hK_ _ ?_
          clear hK_
          refine WOps.cons rfl fun K_ hK_ => ?_
          simp (config := { decide := true }) only [WOne, calleeOf, axOp, ev, keep, okk_some, put, getD_ne, Option.bind_some, et_P, h14, h16, asNat_nat, hp]
          refine hK_ _ ?_
          clear hK_
          refine WOps.cons rfl fun K_ hK_ => ?_
          simp (config := { decide := true }) only [WOne, calleeOf, axOp, ev, keep, okk_some, put, getD_self, List.length_set, et_P, hl', hld]
          refine hK_ _ ?_
          clear hK_
          refine WOps.cons rfl fun K_ hK_ => ?_
          simp (config := { decide := true }) only [WOne, calleeOf, axOp, okk_some, put, if_true, et_P, newA, cells_agg, zero29]
          refine hK_ _ ?_
          clear hK_
          refine WOps.cons rfl fun K_ hK_ => ?_
          simp (config := { decide := true }) only [WOne, calleeOf, axOp, ev, keep, okk_some, put, getD_self, getD_ne, List.length_set, hl']
          refine hK_ _ ?_
          clear hK_
          refine WOps.cons rfl fun K_ hK_ => ?_
          simp (config := { decide := true }) only [WOne, calleeOf, axOp, ev, okk_some, put, getD_self, getD_ne, List.length_set, et_P, hl', store_new (z := [.int .i64 0, .bool false, .nilsl, .nilsl]) rfl hq4 hqf]
          refine hK_ _ ?_
          clear hK_
          simp only [WOps]
          refine hK _ ?_
          clear hK
          refine W.seqk fun K hK => W.region ?_
          refine WOps.cons rfl fun K_ hK_ => ?_
          simp (config := { decide := true }) only [WOne, calleeOf, axOp, ev, keep, okk_some, put, getD_self, List.length_set, hl']
          refine hK_ _ ?_
          clear hK_
          refine WOps.cons rfl fun K_ hK_ => ?_
          simp (config := { decide := true }) only [WOne, calleeOf, axOp, ev, keep, okk_some, put, getD_ne]
          refine hK_ _ ?_
          clear hK_
          refine WOps.cons rfl fun K_ hK_ => ?_
          simp (config := { decide := true }) only [WOne, calleeOf, axOp, ev, evs, okk_some, put, getD_self, List.length_set, et_P, hl', ho.len]
          refine hK_ _ ?_
          clear hK_
          -- the end of a round
          have fin : ∀ (T3 : List AV) (H3 : Heap), T3.length = 41 → T3.getD 8 .undef = .lst [A, B] 2 cap → T3.getD 9 .undef = .int .i64 2 → T3.getD 10 .undef = .int .i64 ((o : Nat) : Int) → T3.getD 14 .undef = X → T3.getD 15 .undef = .int .i64 lx → T3.getD 16 .undef = .int .i64 i → Out ⟨T3, H3⟩ (max m0 (i + 1)) (fun j c => if j < i + 1 ∧ j < m0 then CV l L (n + 1) c else CV l L n c) → K3 ⟨T3, H3⟩ := by
            clear hl' h8' h9' h10 h14 h15 h16 ho
            intro T3 H3 hl' h8' h9' h10 h14 h15 h16 ho
            refine hK3 _ (W.region ?_)
            clear hK3
            refine WOps.cons rfl fun K_ hK_ => ?_
            simp (config := { decide := true }) only [WOne, calleeOf, axOp, ev, keep, okk_some, put, if_true, ofValue, binA, intOp, h16, hw1]
            refine hK_ _ ?_
            clear hK_
            refine WOps.cons rfl fun K_ hK_ => ?_
            simp (config := { decide := true }) only [WOne, calleeOf, axOp, ev, keep, okk_some, put, getD_self, hl']
            refine hK_ _ ?_
            clear hK_
            simp only [WOps, Th]
            refine ⟨lx - (i + 1), by omega, ?_, ?_, ?_, ?_, ?_, ?_, i + 1, by omega, ?_, ho.same (by simp (config := { decide := true }) only [getD_ne]) fun j c _ h => h⟩ <;> simp (config := { decide := true }) only [getD_self, getD_ne, List.length_set, hl', h8', h9', h10, h14, h15]
          by_cases him : i < m0
          · have hb3 : ((i : Int) < ((max m0 i : Nat) : Int)) = True := by simp only [eq_iff_iff, iff_true]; omega
            refine WOps.cons rfl fun K_ hK_ => ?_
            simp (config := { decide := true }) only [WOne, calleeOf, axOp, ev, keep, okk_some, put, if_true, getD_self, getD_ne, List.length_set, binA, intOp, decide_true, hl', hb3]
            refine hK_ _ ?_
            clear hK_
            simp only [WOps]
            refine hK _ ?_
            clear hK
            refine W.cond (b := true) (by simp (config := { decide := true }) only [ev, getD_self, List.length_set, hl']) (fun _ => ?_) (fun h => by simp at h)
            rcases ho with ⟨hz, _⟩ | ⟨id, cs, h3', hc, hg, hf⟩
            · omega
            simp only at h3' hc
            have hidlt : id < H2.length := (List.getElem?_eq_some_iff.1 hc).1
            have hmax : max m0 i = m0 := by omega
            rw [hmax] at h3' hg
            have hc' : (H2 ++ [Blk.cells q])[id]? = some (.cells cs) := by rw [List.getElem?_append_left hidlt]; exact hc
            have hA0 : (fun K : Heap => K[id]? = some (.cells cs) ∧ K[H2.length]? = some (.cells q)) (H2 ++ [Blk.cells q]) := ⟨hc', by simp⟩
            refine W.regionl (fun K : Heap => K[id]? = some (.cells cs) ∧ K[H2.length]? = some (.cells q)) false (by kernel_rfl) hA0 ?_
            have hAof : ∀ K : Heap, (K[id]? = some (.cells cs) ∧ K[H2.length]? = some (.cells q)) ∨ K = H2 ++ [Blk.cells q] → K[id]? = some (.cells cs) ∧ K[H2.length]? = some (.cells q) := by
              rintro K (h | rfl)
              · exact h
              · exact hA0
            have ldq : ∀ K : Heap, K[H2.length]? = some (.cells q) → loadA Tryz.prog K 29 (.ptr H2.length 0) = some (.agg q) := by
              intro K hK
              simp [loadA, hK, readAt, agg29, size29, hq4]
              exact List.take_of_length_le (by omega)
            have hgi := hg.2 i him
            generalize hgq : (cs.drop (i * 4)).take 4 = g at hgi
            have hgi' : CV l L n g := by simpa using hgi
            refine WD.quiet rfl rfl (fun K_ hK_ => by
              have hA_ := hAof K_ hK_
              simp (config := { decide := true }) only [axOp, ev, keep, getD_ne, h3']
              try exact rfl) rfl ?_
            refine WD.quiet rfl rfl (fun K_ hK_ => by
              have hA_ := hAof K_ hK_
              simp (config := { decide := true }) only [axOp, ev, keep, put, getD_self, getD_ne, List.length_set, hl', h3']
              try exact rfl) rfl ?_
            refine WD.quiet rfl rfl (fun K_ hK_ => by
              have hA_ := hAof K_ hK_
              simp (config := { decide := true }) only [axOp, ev, keep, put, getD_ne, h3']
              try exact rfl) rfl ?_
            refine WD.quiet rfl rfl (fun K_ hK_ => by
              have hA_ := hAof K_ hK_
              simp (config := { decide := true }) only [axOp, ev, keep, put, getD_self, getD_ne, List.length_set, hl', h3']
              try exact rfl) rfl ?_
            refine WD.quiet rfl rfl (fun K_ hK_ => by
              have hA_ := hAof K_ hK_
              simp (config := { decide := true }) only [axOp, ev, keep, put, getD_self, getD_ne, List.length_set, Option.bind_some, et_P, hl', h3', asNat_nat, index29 (id := id) (cap := none) him]
              try exact rfl) rfl ?_
            refine WD.quiet rfl rfl (fun K_ hK_ => by
              have hA_ := hAof K_ hK_
              simp (config := { decide := true }) only [axOp, ev, keep, put, getD_self, List.length_set, et_P, hl', h3', load29I hA_.1 hg him, hgq]
              try exact rfl) rfl ?_
            refine WD.quiet rfl rfl (fun K_ hK_ => by
              have hA_ := hAof K_ hK_
              simp (config := { decide := true }) only [axOp, ev, keep, put, getD_self, getD_ne, List.length_set, et_P, hl', h3', ldq K_ hA_.2]
              try exact rfl) rfl ?_
            refine WD.loud rfl rfl fun K_ hK_ => ?_
            simp (config := { decide := true }) only [WOne, calleeOf, ev, evs, put, getD_self, getD_ne, List.length_set, hl']
            refine call_known (by decide) (viewL_two (view_cv hgi' _) (view_cv hq _)) (hadd g q hgi' hq) fun z hz => ?_
            simp only [AX.kill, List.append_nil]
            refine hK_ _ _ (fun _ => hA0) ?_
            clear hK_
            obtain ⟨zc, rfl, hzv⟩ := hz l L n hgi' hq hL1
            obtain ⟨cs', st', hg'⟩ := store29I (P' := fun j c => if j < i + 1 ∧ j < m0 then CV l L (n + 1) c else CV l L n c) hc' hg him (by rw [if_pos ⟨Nat.lt_succ_self i, him⟩]; exact hzv) (cv_len hzv) (pv_flat hzv.pv) (fun j c hj h => by
              have : (j < i + 1 ∧ j < m0) ↔ (j < i ∧ j < m0) := by omega
              simp only [this]
              exact h)
            refine WD.quiet rfl rfl (fun K_ hK_ => by
              have hA_ := hAof K_ hK_
              simp (config := { decide := true }) only [axOp, ev, keep, put, getD_self, getD_ne, List.length_set, Option.bind_some, et_P, hl', h3', asNat_nat, index29 (id := id) (cap := none) him]
              try exact rfl) rfl ?_
            refine WD.loud rfl rfl fun K_ hK_ => ?_
            simp (config := { decide := true }) only [WOne, calleeOf, axOp, ev, okk_some, put, getD_self, getD_ne, List.length_set, et_P, hl', st']
            refine hK_ _ _ (fun h => absurd h (by decide)) ?_
            clear hK_
            simp only [WD, Th, outOf]
            have hf' : ∀ c ∈ cs', isFlat c = true := CV.flats (l := l) (L := L) (n := n + 1) hg'.1 fun j hj => by
              have := hg'.2 j hj
              simp only at this
              split at this
              · exact this
              · exact CV.mono (Nat.le_refl _) (by omega) this
            refine fin _ _ ?_ ?_ ?_ ?_ ?_ ?_ ?_ (.inr ⟨id, cs', ?_, ?_, ?_, hf'⟩)
            rotate_right
            · rw [show max m0 (i + 1) = m0 by omega]; exact hg'
            rotate_right
            · simp only; rw [List.getElem?_set_self (by simp; omega)]
            rotate_right
            · rw [show max m0 (i + 1) = m0 by omega]
              simp (config := { decide := true }) only [put, getD_ne, h3']
            all_goals simp (config := { decide := true }) only [put, getD_ne, List.length_set, hl', h8', h9', h10, h14, h15, h16]
          · have hb3 : ((i : Int) < ((max m0 i : Nat) : Int)) = False := by simp only [eq_iff_iff, iff_false]; omega
            have hmax : max m0 i = i := by omega
            refine WOps.cons rfl fun K_ hK_ => ?_
            simp (config := { decide := true }) only [WOne, calleeOf, axOp, ev, keep, okk_some, put, if_true, getD_self, getD_ne, List.length_set, binA, intOp, decide_false, hl', hb3]
            refine hK_ _ ?_
            clear hK_
            simp only [WOps]
            refine hK _ ?_
            clear hK
            refine W.cond (b := false) (by simp (config := { decide := true }) only [ev, getD_self, List.length_set, hl']) (fun h => by simp at h) (fun _ => W.region ?_)
            obtain ⟨lv, ng, qa, qb, rfl, hqa, hqb⟩ := hq.pv
            have oqa := one_nv hqa
            have oqb := one_flat hqb
            have hog : Out ⟨T2, H2 ++ [Blk.cells [.int .i64 lv, .bool ng, qa, qb]]⟩ i (fun j c => if j < i ∧ j < m0 then CV l L (n + 1) c else CV l L n c) := by
              rw [← hmax]
              exact (by rw [hmax] at ho ⊢; exact ho.grow rfl fun _ _ h => h)
            obtain ⟨id2, H3, cs2, ap1, ap2, ap3, ap4⟩ := append_one (P' := fun j c => if j < i + 1 ∧ j < m0 then CV l L (n + 1) c else CV l L n c) hog (by rw [if_neg (by omega)]; exact hq) rfl hqf (fun j c hj h => by
              have : (j < i + 1 ∧ j < m0) ↔ (j < i ∧ j < m0) := by omega
              simp only [this]
              exact h) (by omega)
            refine WOps.cons rfl fun K_ hK_ => ?_
            simp (config := { decide := true }) only [WOne, calleeOf, axOp, ev, keep, okk_some, put, getD_ne]
            refine hK_ _ ?_
            clear hK_
            refine WOps.cons rfl fun K_ hK_ => ?_
            simp (config := { decide := true }) only [WOne, calleeOf, axOp, ev, keep, okk_some, put, getD_self, getD_ne, List.length_set, et_P, hl', load_new (H := H2) (q := [.int .i64 lv, .bool ng, qa, qb]) rfl]
            refine hK_ _ ?_
            clear hK_
            refine WOps.cons rfl fun K_ hK_ => ?_
            simp (config := { decide := true }) only [WOne, calleeOf, axOp, ev, okk_some, put, if_true, getD_self, List.length_set, P27, size29, et_P, List.drop_succ_cons, List.drop_zero, List.take_zero, List.length_cons, List.length_nil, Nat.zero_add, Nat.reduceAdd, Nat.reduceLeDiff, newA, cells_agg, one_bool, one_int, List.all_cons, List.all_nil, Bool.and_self, zero29, List.nil_append, List.append_nil, writeAt, evParts, fillA, hl', oqa, oqb, copies, Nat.zero_mul]
            refine hK_ _ ?_
            clear hK_
            refine WOps.cons rfl fun K_ hK_ => ?_
            simp (config := { decide := true }) only [WOne, calleeOf, axOp, ev, evs, okk_some, put, getD_self, getD_ne, List.length_set, et_P, hl', ap1]
            refine hK_ _ ?_
            clear hK_
            refine WOps.cons rfl fun K_ hK_ => ?_
            simp (config := { decide := true }) only [WOne, calleeOf, axOp, ev, keep, okk_some, put, getD_self, List.length_set, hl']
            refine hK_ _ ?_
            clear hK_
            simp only [WOps, Th, outOf]
            refine fin _ _ ?_ ?_ ?_ ?_ ?_ ?_ ?_ (.inr ⟨id2, cs2, ?_, ap2, ?_, ap4⟩)
            rotate_right
            · rw [show max m0 (i + 1) = i + 1 by omega]; exact ap3
            rotate_right
            · rw [show max m0 (i + 1) = i + 1 by omega]
              simp (config := { decide := true }) only [getD_self, List.length_set, hl']
            all_goals simp (config := { decide := true }) only [getD_ne, List.length_set, hl', h8', h9', h10, h14, h15, h16]
        · have hb2 : ((i : Int) < (lx : Int)) = False := by simp; omega
          have hil : i = lx := by omega
          subst hil
          refine W.seqk fun K hK => W.region ?_
          refine WOps.cons rfl fun K_ hK_ => ?_
          simp (config := { decide := true }) only [WOne, calleeOf, axOp, ev, keep, okk_some, put, if_true, binA, intOp, decide_false, h15, h16, hb2]
          refine hK_ _ ?_
          clear hK_
          simp only [WOps]
          refine hK _ ?_
          clear hK
          refine W.seqk fun K hK => W.cond (b := false) (by simp (config := { decide := true }) only [ev, getD_self, hl']) (fun h => by simp at h) (fun _ => W.exit ?_)
          simp only [Th, outOf, if_true]
          refine hK2 _ (W.region ?_)
          clear hK2
          refine WOps.cons rfl fun K_ hK_ => ?_
          simp (config := { decide := true }) only [WOne, calleeOf, axOp, ev, keep, okk_some, put, if_true, ofValue, getD_ne, binA, intOp, h10, hw0]
          refine hK_ _ ?_
          clear hK_
          refine WOps.cons rfl fun K_ hK_ => ?_
          simp (config := { decide := true }) only [WOne, calleeOf, axOp, ev, keep, okk_some, put, getD_self, List.length_set, hl']
          refine hK_ _ ?_
          clear hK_
          simp only [WOps, Th]
          refine hnext _ ?_ ?_ ?_ ?_ (ho.same (by simp (config := { decide := true }) only [getD_ne]) fun j c _ h => h) <;> simp (config := { decide := true }) only [getD_self, getD_ne, List.length_set, hl', h8', h9']

end Go.AX

/- AX, part 42: polynomials: add. -/
set_option linter.unusedVariables false
set_option linter.unusedSimpArgs false
set_option maxRecDepth 4000
namespace Go.AX
open Go Go.RowKit Go.Proofs

theorem CV.at {l l' L n L' n' : Nat} {c : List AV} (h : CV l' L' n' c) (h0 : CV l L n c) : CV l L' n' c := by
  obtain ⟨x, hx, hx0⟩ := h0.level
  exact (h.down hx0).up hx

theorem PL.at {l l' L n L' n' len : Nat} {a : AV} (h : PL l' L' n' a len) (h0 : PL l L n a len) : PL l L' n' a len := by
  obtain ⟨cells, cap, rfl, h2, h3, h4⟩ := h
  obtain ⟨cells', cap', e, _, _, h4'⟩ := h0
  simp at e
  obtain ⟨rfl, rfl⟩ := e
  exact ⟨cells, cap, rfl, h2, h3, fun i hi => (h4 i hi).at (h4' i hi)⟩

theorem PL.up {l l' L n len : Nat} {a : AV} (h : PL l L n a len) (hl : l ≤ l') : PL l' L n a len := by
  obtain ⟨cells, cap, rfl, h2, h3, h4⟩ := h
  exact ⟨cells, cap, rfl, h2, h3, fun i hi => (h4 i hi).up hl⟩

theorem PL.one {l L n len len' L' n' l' : Nat} {a : AV} (h : PL l L n a len) (h' : PL l' L' n' a len') : len = len' := by
  obtain ⟨_, _, e, _⟩ := h
  obtain ⟨_, _, e', _⟩ := h'
  rw [e] at e'
  simp at e'
  exact e'.2.1

theorem sum_spec (l L n la lb : Nat) (A B : AV) (cap : Option Nat) (hA : PL l L n A la) (hB : PL l L n B lb) (h1 : 1 ≤ la) (hL : L ≤ 2 ^ 36)
    (hadd : ∀ l' L' n' p q, l' ≤ l → L' ≤ L → n' ≤ n → CV l' L' n' p → CV l' L' n' q → 1 ≤ L' → Con 90 [.agg p, .agg q] (Spec 90 [.agg p, .agg q])) : Con 152 [.lst [A, B] 2 cap] (Spec 152 [.lst [A, B] 2 cap]) := by
  obtain ⟨l0, ⟨L1, n1, hA1, hB1⟩, hl0⟩ := least (fun l => ∃ L n, PL l L n A la ∧ PL l L n B lb) l ⟨L, n, hA, hB⟩
  have hll := hl0 l ⟨L, n, hA, hB⟩
  obtain ⟨L0, n0, ⟨hA0, hB0⟩, hL0, hn0, hmin⟩ := least2 (P := fun L n => PL l0 L n A la ∧ PL l0 L n B lb) (fun _ _ _ _ h h' => ⟨h.1.inf h'.1, h.2.inf h'.2⟩) ⟨hA.at hA1, hB.at hB1⟩
  have hL1 : 1 ≤ L0 := by obtain ⟨_, _, _, _, h, _⟩ := hA0; omega
  refine (sum_con l0 L0 n0 la lb A B cap hA0 hB0 h1 (by omega) hL1 fun p q hp hq => hadd l0 L0 n0 p q hll hL0 hn0 hp hq hL1).imp fun r ⟨len, g1, g2⟩ l' L' n' la' lb' hA' hB' _ => ⟨len, g1, ?_⟩
  have e1 := hA.one hA'
  have e2 := hB.one hB'
  subst e1
  subst e2
  obtain ⟨m1, m2⟩ := hmin L' n' ⟨hA'.at hA1, hB'.at hB1⟩
  exact (g2.mono m1 (by omega)).up (hl0 l' ⟨L', n', hA', hB'⟩)

theorem add_spec_of {l L n : Nat} {p q : List AV} (hp : CV l L n p) (hq : CV l L n q) (hL1 : 1 ≤ L)
    (h : ∀ l' L' n', l' ≤ l → L' ≤ L → n' ≤ n → CV l' L' n' p → CV l' L' n' q → 1 ≤ L' → Con 90 [.agg p, .agg q] (fun r => ∃ cs, r = .agg cs ∧ CV l' L' (n' + 1) cs)) : Con 90 [.agg p, .agg q] (Spec 90 [.agg p, .agg q]) := by
  obtain ⟨l0, ⟨L1, n1, hp1, hq1⟩, hl0⟩ := least (fun l => ∃ L n, CV l L n p ∧ CV l L n q) l ⟨L, n, hp, hq⟩
  have hll := hl0 l ⟨L, n, hp, hq⟩
  obtain ⟨L0, n0, ⟨hp0, hq0, h01⟩, hL0, hn0, hmin⟩ := least2 (P := fun L n => CV l0 L n p ∧ CV l0 L n q ∧ 1 ≤ L) (fun _ _ _ _ h h' => ⟨h.1.inf h'.1, h.2.1.inf h'.2.1, by omega⟩) ⟨hp.at hp1, hq.at hq1, hL1⟩
  refine (h l0 L0 n0 hll hL0 hn0 hp0 hq0 h01).imp fun r ⟨cs, e, hcs⟩ l' L' n' hp' hq' h1' => ⟨cs, e, ?_⟩
  obtain ⟨m1, m2⟩ := hmin L' n' ⟨hp'.at hp1, hq'.at hq1, h1'⟩
  exact (CV.mono m1 (by omega) hcs).up (hl0 l' ⟨L', n', hp', hq'⟩)

theorem zero27 : zeroT Tryz.prog 27 = some .nilsl := by kernel_rfl

theorem padd_con : ∀ (l L n : Nat) (p q : List AV), CV l L n p → CV l L n q → 1 ≤ L → L ≤ 2 ^ 36 → n ≤ 2 ^ 36 → Con 90 [.agg p, .agg q] (fun r => ∃ cs, r = .agg cs ∧ CV l L (n + 1) cs) := by
  intro l
  induction l using Nat.strongRecOn with
  | _ l ih =>
  intro L n p q hp hq hL1 hL hn
  have hp' := hp
  have hq' := hq
  obtain ⟨x, hx, hx0⟩ := hp.level
  obtain ⟨y, hy, hy0⟩ := hq.level
  obtain ⟨lv, ng, a, b, rfl, ha, hb⟩ := hp.pv
  obtain ⟨lw, nh, c, d, rfl, hc, hd⟩ := hq.pv
  simp at hx0 hy0
  subst hx0
  subst hy0
  have oa := one_nv ha
  have ob := one_flat hb
  have oc := one_nv hc
  have od := one_flat hd
  refine con_of Tryz.func90 rfl ?_
  show W ET _ _ ⟨[.agg [.int .i64 x, .bool ng, a, b], .agg [.int .i64 y, .bool nh, c, d]] ++ List.replicate 27 .undef, []⟩
  generalize hT : [.agg [.int .i64 (x : Int), .bool ng, a, b], .agg [.int .i64 (y : Int), .bool nh, c, d]] ++ List.replicate 27 AV.undef = T
  have hl : T.length = 29 := by subst hT; rfl
  have h0 : T.getD 0 .undef = .agg [.int .i64 x, .bool ng, a, b] := by subst hT; rfl
  have h1 : T.getD 1 .undef = .agg [.int .i64 y, .bool nh, c, d] := by subst hT; rfl
  clear hT
  have hmx : ∀ ts K, builtinA Tryz.prog .max ts K [.int .i64 (x : Int), .int .i64 (y : Int)] = some (.int .i64 ((max x y : Nat) : Int), K) := by
    intro ts K
    have : (if (y : Int) > (x : Int) then (y : Int) else (x : Int)) = ((max x y : Nat) : Int) := by split <;> omega
    simp only [builtinA, foldA, if_true, this, Option.map_some]
  refine W.seqk fun K hK => W.region ?_
  refine WOps.cons rfl fun K_ hK_ => ?_
  simp (config := { decide := true }) only [WOne, calleeOf, axOp, ev, okk_some, put, if_true, List.length_nil, newA, cells_agg, one_bool, one_int, List.all_cons, List.all_nil, Bool.and_self, List.nil_append, h0, oa, ob]
  refine hK_ _ ?_
  clear hK_
  refine WOps.cons rfl fun K_ hK_ => ?_
  simp (config := { decide := true }) only [WOne, calleeOf, axOp, ev, okk_some, put, if_true, getD_ne, List.length_cons, List.length_nil, Nat.zero_add, newA, cells_agg, one_bool, one_int, List.all_cons, List.all_nil, Bool.and_self, List.cons_append, List.nil_append, h1, oc, od]
  refine hK_ _ ?_
  clear hK_
  refine WOps.cons rfl fun K_ hK_ => ?_
  simp (config := { decide := true }) only [WOne, calleeOf, axOp, okk_some, put, if_true, et_P, List.length_cons, List.length_nil, Nat.zero_add, Nat.reduceAdd, newA, cells_agg, zero29, List.cons_append, List.nil_append]
  refine hK_ _ ?_
  clear hK_
  simp only [WOps]
  refine hK _ ?_
  clear hK
  refine W.seqk fun K hK => W.region ?_
  refine WOps.cons rfl fun K_ hK_ => ?_
  simp (config := { decide := true }) only [WOne, calleeOf, axOp, ev, keep, okk_some, put, getD_self, getD_ne, et_P, addA, Nat.add_zero, size3, F29_0, hl]
  refine hK_ _ ?_
  clear hK_
  refine WOps.cons rfl fun K_ hK_ => ?_
  simp (config := { decide := true }) only [WOne, List.getElem?_cons_zero, calleeOf, axOp, ev, keep, okk_some, put, getD_self, List.length_set, et_P, loadA, readAt, agg3, hl]
  refine hK_ _ ?_
  clear hK_
  refine WOps.cons rfl fun K_ hK_ => ?_
  simp (config := { decide := true }) only [WOne, calleeOf, axOp, ev, keep, okk_some, put, getD_self, getD_ne, List.length_set, et_P, addA, Nat.add_zero, size3, F29_0, hl]
  refine hK_ _ ?_
  clear hK_
  refine WOps.cons rfl fun K_ hK_ => ?_
  simp (config := { decide := true }) only [WOne, List.getElem?_cons_zero, List.getElem?_cons_succ, calleeOf, axOp, ev, keep, okk_some, put, getD_self, List.length_set, et_P, loadA, readAt, agg3, hl]
  refine hK_ _ ?_
  clear hK_
  refine WOps.cons rfl fun K_ hK_ => ?_
  simp (config := { decide := true }) only [WOne, calleeOf, axOp, ev, evs, okk_some, put, getD_self, getD_ne, List.length_set, et_P, hl, hmx]
  refine hK_ _ ?_
  clear hK_
  refine WOps.cons rfl fun K_ hK_ => ?_
  simp (config := { decide := true }) only [WOne, calleeOf, axOp, ev, keep, okk_some, put, getD_self, List.length_set, hl]
  refine hK_ _ ?_
  clear hK_
  simp only [WOps]
  refine hK _ ?_
  clear hK
  refine W.seqk fun Ks hKs => ?_
  refine W.seqk fun K hK => W.region ?_
  refine WOps.cons rfl fun K_ hK_ => ?_
  simp (config := { decide := true }) only [WOne, calleeOf, axOp, ev, keep, okk_some, put, getD_self, List.length_set, hl]
  refine hK_ _ ?_
  clear hK_
  refine WOps.cons rfl fun K_ hK_ => ?_
  simp (config := { decide := true }) only [WOne, calleeOf, axOp, ev, keep, okk_some, put, if_true, ofValue, getD_self, List.length_set, binA, intOp, hl]
  refine hK_ _ ?_
  clear hK_
  simp only [WOps]
  refine hK _ ?_
  clear hK
  by_cases hmax : max x y = 0
  · have hx0 : x = 0 := by omega
    have hy0 : y = 0 := by omega
    subst hx0
    subst hy0
    refine W.cond (b := true) (by simp (config := { decide := true }) only [ev, getD_self, List.length_set, beq_self_eq_true, hl, hmax, Int.natCast_zero]) (fun _ => ?_) (fun h => by simp at h)
    refine W.seqk fun K hK => W.region ?_
    refine WOps.cons rfl fun K_ hK_ => ?_
    simp (config := { decide := true }) only [WOne, calleeOf, axOp, ev, keep, okk_some, put, getD_self, getD_ne, size26, et_P, addA, Nat.zero_add, F29_1, hl]
    refine hK_ _ ?_
    clear hK_
    refine WOps.cons rfl fun K_ hK_ => ?_
    simp (config := { decide := true }) only [WOne, List.getElem?_cons_zero, calleeOf, axOp, ev, keep, okk_some, put, if_true, getD_self, List.length_set, size26, agg26, et_P, loadA, readAt, List.drop_succ_cons, List.drop_zero, List.take_succ_cons, List.take_zero, List.length_cons, List.length_nil, Nat.zero_add, Nat.reduceAdd, Nat.reduceLeDiff, hl]
    refine hK_ _ ?_
    clear hK_
    refine WOps.cons rfl fun K_ hK_ => ?_
    simp (config := { decide := true }) only [WOne, calleeOf, axOp, ev, keep, okk_some, put, getD_self, getD_ne, List.length_set, size26, et_P, addA, Nat.zero_add, F29_1, hl]
    refine hK_ _ ?_
    clear hK_
    refine WOps.cons rfl fun K_ hK_ => ?_
    simp (config := { decide := true }) only [WOne, List.getElem?_cons_zero, List.getElem?_cons_succ, calleeOf, axOp, ev, keep, okk_some, put, if_true, getD_self, List.length_set, size26, agg26, et_P, loadA, readAt, List.drop_succ_cons, List.drop_zero, List.take_succ_cons, List.take_zero, List.length_cons, List.length_nil, Nat.zero_add, Nat.reduceAdd, Nat.reduceLeDiff, hl]
    refine hK_ _ ?_
    clear hK_
    refine WOps.cons rfl fun K_ hK_ => ?_
    simp (config := { decide := true }) only [WOne, calleeOf, ev, evs, put, getD_self, getD_ne, List.length_set, hl]
    refine call_known (by decide) (viewL_two (view_iv ha _ _) (view_iv hc _ _)) (iadd_spec ng nh a c n ha hc (by omega)) fun z hz => ?_
    simp only [AX.kill, List.append_nil]
    refine hK_ _ ?_
    clear hK_
    obtain ⟨zb, z, rfl, hzv⟩ := hz n ⟨ng, a, rfl, ha⟩ ⟨nh, c, rfl, hc⟩
    have oz := one_nv hzv
    refine WOps.cons rfl fun K_ hK_ => ?_
    simp (config := { decide := true }) only [WOne, List.getElem?_cons_zero, List.getElem?_cons_succ, calleeOf, axOp, ev, keep, okk_some, put, if_true, getD_self, List.length_set, Option.map_some, et_P, List.drop_succ_cons, List.drop_zero, List.take_succ_cons, List.take_zero, List.length_cons, List.length_nil, Nat.zero_add, Nat.reduceAdd, Nat.reduceLeDiff, cells_agg, zero29, List.cons_append, List.nil_append, writeAt, evParts, fillA, Tryz.underlying29, PL29, hl]
    refine hK_ _ ?_
    clear hK_
    refine WOps.cons rfl fun K_ hK_ => ?_
    simp (config := { decide := true }) only [WOne, List.getElem?_cons_zero, List.getElem?_cons_succ, calleeOf, axOp, ev, okk_some, put, if_true, getD_self, getD_ne, List.length_set, size29, et_P, decide_true, List.drop_succ_cons, List.drop_zero, List.take_zero, List.length_cons, List.length_nil, Nat.zero_add, Nat.reduceAdd, Nat.reduceLeDiff, cells_agg, one_bool, one_int, one_nilsl, List.all_cons, List.all_nil, Bool.and_self, List.nil_append, List.append_nil, storeA, writeAt, List.set_cons_zero, List.set_cons_succ, hl, oz]
    refine hK_ _ ?_
    clear hK_
    simp only [WOps]
    refine hK _ ?_
    clear hK
    have hcv : CV l L (n + 1) [.int .i64 0, .bool zb, z, .nilsl] := CV.up (l := 0) ⟨zb, z, .nilsl, rfl, hzv, .inl rfl⟩ (by omega)
    refine W.ret ⟨.inr rfl, .agg [.int .i64 0, .bool zb, z, .nilsl], ?_, _, [], view_cv hcv _, _, rfl, hcv⟩
    simp (config := { decide := true }) only [List.getElem?_cons_zero, List.getElem?_cons_succ, if_true, getD_self, getD_ne, List.length_set, size29, agg29, loadA, readAt, List.drop_zero, List.take_succ_cons, List.take_zero, List.length_cons, List.length_nil, Nat.zero_add, Nat.reduceAdd, Nat.reduceLeDiff, resultsA, Tryz.results90, resultsL, hl]
  · obtain ⟨k, hk⟩ : ∃ k, max x y = k + 1 := ⟨max x y - 1, by omega⟩
    have hb0 : (((max x y : Nat) : Int) == 0) = false := by rw [hk]; simp; omega
    refine W.cond (b := false) (by simp (config := { decide := true }) only [ev, getD_self, List.length_set, hl, hb0]) (fun h => by simp at h) (fun _ => W.skip ?_)
    simp only [Th]
    refine hKs _ ?_
    clear hKs hmx
    rw [hk]
    have hpk : CV (k + 1) L n [.int .i64 x, .bool ng, a, b] := (hp'.down rfl).up (by omega)
    have hqk : CV (k + 1) L n [.int .i64 y, .bool nh, c, d] := (hq'.down rfl).up (by omega)
    have hA0 : (fun K : Heap => K[0]? = some (.cells [.int .i64 (x : Int), .bool ng, a, b]) ∧ K[1]? = some (.cells [.int .i64 (y : Int), .bool nh, c, d])) [.cells [.int .i64 (x : Int), .bool ng, a, b], .cells [.int .i64 (y : Int), .bool nh, c, d], .cells [.int .i64 0, .bool false, .nilsl, .nilsl]] := ⟨rfl, rfl⟩
    refine W.seqk fun K hK => W.regionl (fun K : Heap => K[0]? = some (.cells [.int .i64 (x : Int), .bool ng, a, b]) ∧ K[1]? = some (.cells [.int .i64 (y : Int), .bool nh, c, d])) false (by kernel_rfl) hA0 ?_
    have hAof : ∀ K : Heap, (K[0]? = some (.cells [.int .i64 (x : Int), .bool ng, a, b]) ∧ K[1]? = some (.cells [.int .i64 (y : Int), .bool nh, c, d])) ∨ K = [.cells [.int .i64 (x : Int), .bool ng, a, b], .cells [.int .i64 (y : Int), .bool nh, c, d], .cells [.int .i64 0, .bool false, .nilsl, .nilsl]] → K[0]? = some (.cells [.int .i64 (x : Int), .bool ng, a, b]) ∧ K[1]? = some (.cells [.int .i64 (y : Int), .bool nh, c, d]) := by
      rintro K (h | rfl)
      · exact h
      · exact ⟨rfl, rfl⟩
    refine WD.quiet rfl rfl (fun K_ hK_ => by
      have hA_ := hAof K_ (hK_.elim .inl fun e => .inr (by simpa using e))
      simp (config := { decide := true }) only [axOp, ev, keep, getD_self, getD_ne, List.length_set, hl]
      try exact rfl) rfl ?_
    refine WD.quiet rfl rfl (fun K_ hK_ => by
      have hA_ := hAof K_ (hK_.elim .inl fun e => .inr (by simpa using e))
      simp (config := { decide := true }) only [axOp, ev, keep, put, if_true, getD_self, getD_ne, size29, agg29, et_P, loadA, readAt, List.drop_zero, List.take_succ_cons, List.take_zero, List.length_cons, List.length_nil, Nat.zero_add, Nat.reduceAdd, Nat.reduceLeDiff, hl, hA_]
      try exact rfl) rfl ?_
    refine WD.quiet rfl rfl (fun K_ hK_ => by
      have hA_ := hAof K_ (hK_.elim .inl fun e => .inr (by simpa using e))
      simp (config := { decide := true }) only [axOp, ev, keep, put, getD_self, getD_ne, List.length_set, hl]
      try exact rfl) rfl ?_
    refine WD.loud rfl rfl fun K_ hK_ => ?_
    simp (config := { decide := true }) only [WOne, calleeOf, ev, evs, put, getD_self, getD_ne, List.length_set, hl]
    refine call_known (by decide) (viewL_two (view_cv hp' _) (view_flat (v := .int .i64 ((k + 1 : Nat) : Int)) rfl _ 39)) (coefs_spec k L n _ hpk hL1 (by omega)) fun A hA => ?_
    simp only [AX.kill, List.append_nil]
    refine hK_ _ _ (fun _ => hA0) ?_
    clear hK_
    obtain ⟨la, hla, hA⟩ := hA k L n rfl hpk hL1
    refine WD.quiet rfl rfl (fun K_ hK_ => by
      have hA_ := hAof K_ (hK_.elim .inl fun e => .inr (by simpa using e))
      simp (config := { decide := true }) only [axOp, ev, keep, put, if_true, getD_self, getD_ne, List.length_set, size29, agg29, et_P, loadA, readAt, List.drop_zero, List.take_succ_cons, List.take_zero, List.length_cons, List.length_nil, Nat.zero_add, Nat.reduceAdd, Nat.reduceLeDiff, hl, hA_]
      try exact rfl) rfl ?_
    refine WD.quiet rfl rfl (fun K_ hK_ => by
      have hA_ := hAof K_ (hK_.elim .inl fun e => .inr (by simpa using e))
      simp (config := { decide := true }) only [axOp, ev, keep, put, getD_self, getD_ne, List.length_set, hl]
      try exact rfl) rfl ?_
    refine WD.loud rfl rfl fun K_ hK_ => ?_
    simp (config := { decide := true }) only [WOne, calleeOf, ev, evs, put, getD_self, getD_ne, List.length_set, hl]
    refine call_known (by decide) (viewL_two (view_cv hq' _) (view_flat (v := .int .i64 ((k + 1 : Nat) : Int)) rfl _ 39)) (coefs_spec k L n _ hqk hL1 (by omega)) fun B hB => ?_
    simp only [AX.kill, List.append_nil]
    refine hK_ _ _ (fun _ => hA0) ?_
    clear hK_
    obtain ⟨lb, hlb, hB⟩ := hB k L n rfl hqk hL1
    have fA := hA.flat
    have fB := hB.flat
    refine WD.loud rfl rfl fun K_ hK_ => ?_
    simp (config := { decide := true }) only [WOne, calleeOf, axOp, ev, okk_some, put, if_true, getD_self, getD_ne, List.length_set, P239, et_P, List.drop_succ_cons, List.drop_zero, List.take_succ_cons, List.take_zero, List.length_cons, List.length_nil, Nat.zero_add, Nat.reduceAdd, Nat.reduceLeDiff, newA, cells_nilsl, List.all_cons, List.all_nil, Bool.and_self, List.cons_append, List.nil_append, List.append_nil, writeAt, evParts, fillA, size27, hl, P239, zero27, copies, Nat.mul_one, cells_flat fA, cells_flat fB, one_flat fA, one_flat fB]
    refine hK_ _ _ (fun _ => ⟨rfl, rfl⟩) ?_
    clear hK_
    have hvw : view [.cells [.int .i64 (x : Int), .bool ng, a, b], .cells [.int .i64 (y : Int), .bool nh, c, d], .cells [.int .i64 0, .bool false, .nilsl, .nilsl], .cells [A, B]] depthA (.sl 3 0 2 1 (some 2)) = some (.lst [A, B] 2 (some 2), [3]) := by
      rw [view_slflat (cs := [A, B]) rfl (by simp) (by simp [fA, fB])]
      rfl
    refine WD.loud rfl rfl fun K_ hK_ => ?_
    simp (config := { decide := true }) only [WOne, calleeOf, ev, evs, put, getD_self, List.length_set, hl]
    refine call_known (by decide) (viewL_one hvw) (sum_spec k L n la lb A B (some 2) hA hB hla hL fun l' L' n' p q hl' hL' hn' h1 h2 h3 => add_spec_of h1 h2 h3 fun l2 L2 n2 g1 g2 g3 g4 g5 g6 => ih l2 (by omega) L2 n2 p q g4 g5 g6 (by omega) (by omega)) fun S hS => ?_
    simp only [AX.kill]
    refine hK_ _ _ (fun _ => ⟨rfl, rfl⟩) ?_
    clear hK_
    obtain ⟨ls, hls, hS⟩ := hS k L n la lb hA hB hla
    refine WD.loud rfl rfl fun K_ hK_ => ?_
    simp (config := { decide := true }) only [WOne, calleeOf, ev, evs, put, getD_self, getD_ne, List.length_set, hl]
    refine call_known (by decide) (viewL_ipl hS.flat _ _ _) (join_spec k L (n + 1) ls S hS (by omega) (by omega)) fun z hz => ?_
    simp only [AX.kill]
    refine hK_ _ _ (fun _ => ⟨rfl, rfl⟩) ?_
    clear hK_
    obtain ⟨zc, rfl, hzv⟩ := hz k L (n + 1) ls rfl hS
    have hcv : CV l L (n + 1) zc := hzv.up (by omega)
    obtain ⟨lv2, ng2, a2, b2, rfl, ha2, hb2⟩ := hzv.pv
    have oa2 := one_nv ha2
    have ob2 := one_flat hb2
    refine WD.loud rfl rfl fun K_ hK_ => ?_
    simp (config := { decide := true }) only [WOne, List.getElem?_cons_zero, List.getElem?_cons_succ, calleeOf, axOp, ev, okk_some, put, if_true, getD_self, getD_ne, List.length_set, size29, et_P, decide_true, List.drop_succ_cons, List.drop_zero, List.take_zero, List.length_cons, List.length_nil, Nat.zero_add, Nat.reduceAdd, Nat.reduceLeDiff, cells_agg, one_bool, one_int, List.all_cons, List.all_nil, Bool.and_self, List.nil_append, List.append_nil, storeA, writeAt, List.set_cons_zero, List.set_cons_succ, hl, oa2, ob2]
    refine hK_ _ _ (fun h => absurd h (by decide)) ?_
    clear hK_
    simp only [WD]
    refine hK _ (W.ret ⟨.inr rfl, .agg [.int .i64 lv2, .bool ng2, a2, b2], ?_, _, [], view_cv hcv _, _, rfl, hcv⟩)
    simp (config := { decide := true }) only [List.getElem?_cons_zero, List.getElem?_cons_succ, put, if_true, getD_self, getD_ne, List.length_set, size29, agg29, loadA, readAt, List.drop_zero, List.take_succ_cons, List.take_zero, List.length_cons, List.length_nil, Nat.zero_add, Nat.reduceAdd, Nat.reduceLeDiff, resultsA, Tryz.results90, resultsL, hl]

end Go.AX

/- AX, part 43: polynomials: products. -/
set_option linter.unusedVariables false
set_option linter.unusedSimpArgs false
set_option maxRecDepth 4000
namespace Go.AX
open Go Go.RowKit Go.Proofs

theorem padd_spec {l L n : Nat} {p q : List AV} (hp : CV l L n p) (hq : CV l L n q) (hL1 : 1 ≤ L) (hL : L ≤ 2 ^ 36) (hn : n ≤ 2 ^ 36) : Con 90 [.agg p, .agg q] (Spec 90 [.agg p, .agg q]) :=
  add_spec_of hp hq hL1 fun l' L' n' h1 h2 h3 h4 h5 h6 => padd_con l' L' n' p q h4 h5 h6 (by omega) (by omega)

theorem mul_spec_of {l L M n m : Nat} {p q : List AV} (hp : CV l L n p) (hq : CV l M m q) (hL1 : 1 ≤ L) (hM1 : 1 ≤ M)
    (h : ∀ l' L' M' n' m', l' ≤ l → L' ≤ L → M' ≤ M → n' ≤ n → m' ≤ m → CV l' L' n' p → CV l' M' m' q → 1 ≤ L' → 1 ≤ M' → Con 91 [.agg p, .agg q] (fun r => ∃ cs, r = .agg cs ∧ CV l' (L' + M') (n' + m' + l' * L') cs)) : Con 91 [.agg p, .agg q] (Spec 91 [.agg p, .agg q]) := by
  obtain ⟨l0, ⟨L1, n1, M1, m1, hp1, hq1⟩, hl0⟩ := least (fun l => ∃ L n M m, CV l L n p ∧ CV l M m q) l ⟨L, n, M, m, hp, hq⟩
  have hll := hl0 l ⟨L, n, M, m, hp, hq⟩
  obtain ⟨L0, n0, ⟨hp0, h01⟩, hL0, hn0, hmin⟩ := least2 (P := fun L n => CV l0 L n p ∧ 1 ≤ L) (fun _ _ _ _ h h' => ⟨h.1.inf h'.1, by omega⟩) ⟨hp.at hp1, hL1⟩
  obtain ⟨M0, m0, ⟨hq0, h02⟩, hM0, hm0, hmin2⟩ := least2 (P := fun L n => CV l0 L n q ∧ 1 ≤ L) (fun _ _ _ _ h h' => ⟨h.1.inf h'.1, by omega⟩) ⟨hq.at hq1, hM1⟩
  refine (h l0 L0 M0 n0 m0 hll hL0 hM0 hn0 hm0 hp0 hq0 h01 h02).imp fun r ⟨cs, e, hcs⟩ l' L' M' n' m' hp' hq' h1' h2' => ⟨cs, e, ?_⟩
  obtain ⟨k1, k2⟩ := hmin L' n' ⟨hp'.at hp1, h1'⟩
  obtain ⟨k3, k4⟩ := hmin2 M' m' ⟨hq'.at hq1, h2'⟩
  have hl' := hl0 l' ⟨L', n', M', m', hp', hq'⟩
  have hmul : l0 * L0 ≤ l' * L' := Nat.mul_le_mul hl' k1
  exact (CV.mono (by omega) (by omega) hcs).up hl'

theorem pmul_con : ∀ (l L M n m : Nat) (p q : List AV), CV l L n p → CV l M m q → 1 ≤ L → 1 ≤ M → l ≤ 4 → L ≤ 2 ^ 30 → M ≤ 2 ^ 30 → n ≤ 2 ^ 30 → m ≤ 2 ^ 30 → Con 91 [.agg p, .agg q] (fun r => ∃ cs, r = .agg cs ∧ CV l (L + M) (n + m + l * L) cs) := by
  intro l
  induction l using Nat.strongRecOn with
  | _ l ih =>
  intro L M n m p q hp hq hL1 hM1 hl4 hL hM hn hm
  have hp' := hp
  have hq' := hq
  obtain ⟨x, hx, hx0⟩ := hp.level
  obtain ⟨y, hy, hy0⟩ := hq.level
  obtain ⟨lv, ng, a, b, rfl, ha, hb⟩ := hp.pv
  obtain ⟨lw, nh, c, d, rfl, hc, hd⟩ := hq.pv
  simp at hx0 hy0
  subst hx0
  subst hy0
  have oa := one_nv ha
  have ob := one_flat hb
  have oc := one_nv hc
  have od := one_flat hd
  refine con_of Tryz.func91 rfl ?_
  show W ET _ _ ⟨[.agg [.int .i64 x, .bool ng, a, b], .agg [.int .i64 y, .bool nh, c, d]] ++ List.replicate 77 .undef, []⟩
  generalize hT : [.agg [.int .i64 (x : Int), .bool ng, a, b], .agg [.int .i64 (y : Int), .bool nh, c, d]] ++ List.replicate 77 AV.undef = T
  have hl : T.length = 79 := by subst hT; rfl
  have h0 : T.getD 0 .undef = .agg [.int .i64 x, .bool ng, a, b] := by subst hT; rfl
  have h1 : T.getD 1 .undef = .agg [.int .i64 y, .bool nh, c, d] := by subst hT; rfl
  clear hT
  have hmx : ∀ ts K, builtinA Tryz.prog .max ts K [.int .i64 (x : Int), .int .i64 (y : Int)] = some (.int .i64 ((max x y : Nat) : Int), K) := by
    intro ts K
    have : (if (y : Int) > (x : Int) then (y : Int) else (x : Int)) = ((max x y : Nat) : Int) := by split <;> omega
    simp only [builtinA, foldA, if_true, this, Option.map_some]
  -- the end with one product
  have fin : ∀ (T1 : List AV) (zc : List AV), T1.length = 79 → T1.getD 4 .undef = .ptr 2 0 → CV l (L + M) (n + m + l * L) zc → ∃ r, resultsA Tryz.prog Tryz.f91 ⟨T1, [.cells [.int .i64 (x : Int), .bool ng, a, b], .cells [.int .i64 (y : Int), .bool nh, c, d], .cells zc]⟩ = some r ∧ ∃ r' ids, view [.cells [.int .i64 (x : Int), .bool ng, a, b], .cells [.int .i64 (y : Int), .bool nh, c, d], .cells zc] depthA r = some (r', ids) ∧ ∃ cs, r' = .agg cs ∧ CV l (L + M) (n + m + l * L) cs := by
    intro T1 zc hl' h4 hcv
    refine ⟨.agg zc, ?_, _, [], view_cv hcv _, zc, rfl, hcv⟩
    obtain ⟨lv2, ng2, a2, b2, rfl, _⟩ := hcv.pv
    simp (config := { decide := true }) only [List.getElem?_cons_zero, List.getElem?_cons_succ, if_true, size29, agg29, loadA, readAt, List.drop_zero, List.take_succ_cons, List.take_zero, List.length_cons, List.length_nil, Nat.zero_add, Nat.reduceAdd, Nat.reduceLeDiff, resultsA, Tryz.results91, resultsL, h4]
  refine W.seqk fun K hK => W.region ?_
  refine WOps.cons rfl fun K_ hK_ => ?_
  simp (config := { decide := true }) only [WOne, calleeOf, axOp, ev, okk_some, put, if_true, List.length_nil, newA, cells_agg, one_bool, one_int, List.all_cons, List.all_nil, Bool.and_self, List.nil_append, h0, oa, ob]
  refine hK_ _ ?_
  clear hK_
  refine WOps.cons rfl fun K_ hK_ => ?_
  simp (config := { decide := true }) only [WOne, calleeOf, axOp, ev, okk_some, put, if_true, getD_ne, List.length_cons, List.length_nil, Nat.zero_add, newA, cells_agg, one_bool, one_int, List.all_cons, List.all_nil, Bool.and_self, List.cons_append, List.nil_append, h1, oc, od]
  refine hK_ _ ?_
  clear hK_
  refine WOps.cons rfl fun K_ hK_ => ?_
  simp (config := { decide := true }) only [WOne, calleeOf, axOp, okk_some, put, if_true, et_P, List.length_cons, List.length_nil, Nat.zero_add, Nat.reduceAdd, newA, cells_agg, zero29, List.cons_append, List.nil_append]
  refine hK_ _ ?_
  clear hK_
  simp only [WOps]
  refine hK _ ?_
  clear hK
  refine W.seqk fun Ks hKs => ?_
  refine W.seqk fun K hK => W.region ?_
  refine WOps.cons rfl fun K_ hK_ => ?_
  simp (config := { decide := true }) only [WOne, calleeOf, axOp, ev, keep, okk_some, put, getD_self, getD_ne, List.length_set, et_P, addA, Nat.add_zero, size3, F29_0, hl]
  refine hK_ _ ?_
  clear hK_
  refine WOps.cons rfl fun K_ hK_ => ?_
  simp (config := { decide := true }) only [WOne, List.getElem?_cons_zero, List.getElem?_cons_succ, calleeOf, axOp, ev, keep, okk_some, put, getD_self, List.length_set, et_P, loadA, readAt, agg3, hl]
  refine hK_ _ ?_
  clear hK_
  refine WOps.cons rfl fun K_ hK_ => ?_
  simp (config := { decide := true }) only [WOne, calleeOf, axOp, ev, keep, okk_some, put, if_true, ofValue, getD_self, List.length_set, binA, intOp, hl]
  refine hK_ _ ?_
  clear hK_
  simp only [WOps]
  refine hK _ ?_
  clear hK
  by_cases hy0 : y = 0
  · subst hy0
    refine W.cond (b := true) (by simp (config := { decide := true }) only [ev, getD_self, List.length_set, beq_self_eq_true, hl, Int.natCast_zero]) (fun _ => ?_) (fun h => by simp at h)
    refine W.seqk fun K hK => W.region ?_
    refine WOps.cons rfl fun K_ hK_ => ?_
    simp (config := { decide := true }) only [WOne, List.getElem?_cons_zero, calleeOf, axOp, ev, keep, okk_some, put, if_true, getD_self, getD_ne, size29, agg29, et_P, loadA, readAt, List.drop_zero, List.take_succ_cons, List.take_zero, List.length_cons, List.length_nil, Nat.zero_add, Nat.reduceAdd, Nat.reduceLeDiff, hl]
    refine hK_ _ ?_
    clear hK_
    refine WOps.cons rfl fun K_ hK_ => ?_
    simp (config := { decide := true }) only [WOne, calleeOf, axOp, ev, keep, okk_some, put, getD_self, getD_ne, List.length_set, size26, et_P, addA, Nat.zero_add, F29_1, hl]
    refine hK_ _ ?_
    clear hK_
    refine WOps.cons rfl fun K_ hK_ => ?_
    simp (config := { decide := true }) only [WOne, List.getElem?_cons_zero, List.getElem?_cons_succ, calleeOf, axOp, ev, keep, okk_some, put, if_true, getD_self, List.length_set, size26, agg26, et_P, loadA, readAt, List.drop_succ_cons, List.drop_zero, List.take_succ_cons, List.take_zero, List.length_cons, List.length_nil, Nat.zero_add, Nat.reduceAdd, Nat.reduceLeDiff, hl]
    refine hK_ _ ?_
    clear hK_
    refine WOps.cons rfl fun K_ hK_ => ?_
    simp (config := { decide := true }) only [WOne, calleeOf, ev, evs, put, getD_self, getD_ne, List.length_set, hl]
    refine call_known (by decide) (viewL_two (view_cv hp' _) (view_iv hc _ _)) (scale_spec hp' hc (by omega) (by omega) (by omega)) fun z hz => ?_
    simp only [AX.kill, List.append_nil]
    refine hK_ _ ?_
    clear hK_
    obtain ⟨zc, rfl, hzv⟩ := hz l L n m hp' ⟨nh, c, rfl, hc⟩
    obtain ⟨lv2, ng2, a2, b2, rfl, ha2, hb2⟩ := hzv.pv
    have oa2 := one_nv ha2
    have ob2 := one_flat hb2
    refine WOps.cons rfl fun K_ hK_ => ?_
    simp (config := { decide := true }) only [WOne, List.getElem?_cons_zero, List.getElem?_cons_succ, calleeOf, axOp, ev, okk_some, put, if_true, getD_self, getD_ne, List.length_set, size29, et_P, decide_true, List.drop_succ_cons, List.drop_zero, List.take_zero, List.length_cons, List.length_nil, Nat.zero_add, Nat.reduceAdd, Nat.reduceLeDiff, cells_agg, one_bool, one_int, List.all_cons, List.all_nil, Bool.and_self, List.nil_append, List.append_nil, storeA, writeAt, List.set_cons_zero, List.set_cons_succ, hl, oa2, ob2]
    refine hK_ _ ?_
    clear hK_
    simp only [WOps]
    refine hK _ ?_
    clear hK
    refine W.ret ⟨.inr rfl, fin _ _ ?_ ?_ (CV.mono (by omega) (by omega) hzv)⟩ <;> simp (config := { decide := true }) only [getD_self, getD_ne, List.length_set, hl]
  have hby : ((y : Int) == 0) = false := by simp; omega
  refine W.cond (b := false) (by simp (config := { decide := true }) only [ev, getD_self, List.length_set, hl, hby]) (fun h => by simp at h) (fun _ => W.skip ?_)
  simp only [Th]
  refine hKs _ ?_
  clear hKs
  refine W.seqk fun Ks hKs => ?_
  refine W.seqk fun K hK => W.region ?_
  refine WOps.cons rfl fun K_ hK_ => ?_
  simp (config := { decide := true }) only [WOne, calleeOf, axOp, ev, keep, okk_some, put, getD_self, getD_ne, et_P, addA, Nat.add_zero, size3, F29_0, hl]
  refine hK_ _ ?_
  clear hK_
  refine WOps.cons rfl fun K_ hK_ => ?_
  simp (config := { decide := true }) only [WOne, List.getElem?_cons_zero, calleeOf, axOp, ev, keep, okk_some, put, getD_self, List.length_set, et_P, loadA, readAt, agg3, hl]
  refine hK_ _ ?_
  clear hK_
  refine WOps.cons rfl fun K_ hK_ => ?_
  simp (config := { decide := true }) only [WOne, calleeOf, axOp, ev, keep, okk_some, put, if_true, ofValue, getD_self, List.length_set, binA, intOp, hl]
  refine hK_ _ ?_
  clear hK_
  simp only [WOps]
  refine hK _ ?_
  clear hK
  by_cases hx0 : x = 0
  · subst hx0
    refine W.cond (b := true) (by simp (config := { decide := true }) only [ev, getD_self, List.length_set, beq_self_eq_true, hl, Int.natCast_zero]) (fun _ => ?_) (fun h => by simp at h)
    refine W.seqk fun K hK => W.region ?_
    refine WOps.cons rfl fun K_ hK_ => ?_
    simp (config := { decide := true }) only [WOne, List.getElem?_cons_zero, List.getElem?_cons_succ, calleeOf, axOp, ev, keep, okk_some, put, if_true, getD_self, getD_ne, List.length_set, size29, agg29, et_P, loadA, readAt, List.drop_zero, List.take_succ_cons, List.take_zero, List.length_cons, List.length_nil, Nat.zero_add, Nat.reduceAdd, Nat.reduceLeDiff, hl]
    refine hK_ _ ?_
    clear hK_
    refine WOps.cons rfl fun K_ hK_ => ?_
    simp (config := { decide := true }) only [WOne, calleeOf, axOp, ev, keep, okk_some, put, getD_self, getD_ne, size26, et_P, addA, Nat.zero_add, F29_1, hl]
    refine hK_ _ ?_
    clear hK_
    refine WOps.cons rfl fun K_ hK_ => ?_
    simp (config := { decide := true }) only [WOne, List.getElem?_cons_zero, calleeOf, axOp, ev, keep, okk_some, put, if_true, getD_self, List.length_set, size26, agg26, et_P, loadA, readAt, List.drop_succ_cons, List.drop_zero, List.take_succ_cons, List.take_zero, List.length_cons, List.length_nil, Nat.zero_add, Nat.reduceAdd, Nat.reduceLeDiff, hl]
    refine hK_ _ ?_
    clear hK_
    refine WOps.cons rfl fun K_ hK_ => ?_
    simp (config := { decide := true }) only [WOne, calleeOf, ev, evs, put, getD_self, getD_ne, List.length_set, hl]
    refine call_known (by decide) (viewL_two (view_cv hq' _) (view_iv ha _ _)) (scale_spec hq' ha (by omega) (by omega) (by omega)) fun z hz => ?_
    simp only [AX.kill, List.append_nil]
    refine hK_ _ ?_
    clear hK_
    obtain ⟨zc, rfl, hzv⟩ := hz l M m n hq' ⟨ng, a, rfl, ha⟩
    obtain ⟨lv2, ng2, a2, b2, rfl, ha2, hb2⟩ := hzv.pv
    have oa2 := one_nv ha2
    have ob2 := one_flat hb2
    refine WOps.cons rfl fun K_ hK_ => ?_
    simp (config := { decide := true }) only [WOne, List.getElem?_cons_zero, List.getElem?_cons_succ, calleeOf, axOp, ev, okk_some, put, if_true, getD_self, getD_ne, List.length_set, size29, et_P, decide_true, List.drop_succ_cons, List.drop_zero, List.take_zero, List.length_cons, List.length_nil, Nat.zero_add, Nat.reduceAdd, Nat.reduceLeDiff, cells_agg, one_bool, one_int, List.all_cons, List.all_nil, Bool.and_self, List.nil_append, List.append_nil, storeA, writeAt, List.set_cons_zero, List.set_cons_succ, hl, oa2, ob2]
    refine hK_ _ ?_
    clear hK_
    simp only [WOps]
    refine hK _ ?_
    clear hK
    refine W.ret ⟨.inr rfl, fin _ _ ?_ ?_ (CV.mono (by omega) (by omega) hzv)⟩ <;> simp (config := { decide := true }) only [getD_self, getD_ne, List.length_set, hl]
  have hbx : ((x : Int) == 0) = false := by simp; omega
  refine W.cond (b := false) (by simp (config := { decide := true }) only [ev, getD_self, List.length_set, hl, hbx]) (fun h => by simp at h) (fun _ => W.skip ?_)
  simp only [Th]
  refine hKs _ ?_
  clear hKs
  obtain ⟨k, hk⟩ : ∃ k, max x y = k + 1 := ⟨max x y - 1, by omega⟩
  have hkl : k + 1 ≤ l := by omega
  have hpk : CV (k + 1) L n [.int .i64 x, .bool ng, a, b] := (hp'.down rfl).up (by omega)
  have hqk : CV (k + 1) M m [.int .i64 y, .bool nh, c, d] := (hq'.down rfl).up (by omega)
  refine W.seqk fun K hK => W.region ?_
  refine WOps.cons rfl fun K_ hK_ => ?_
  simp (config := { decide := true }) only [WOne, calleeOf, axOp, ev, keep, okk_some, put, getD_self, getD_ne, et_P, addA, Nat.add_zero, size3, F29_0, hl]
  refine hK_ _ ?_
  clear hK_
  refine WOps.cons rfl fun K_ hK_ => ?_
  simp (config := { decide := true }) only [WOne, List.getElem?_cons_zero, calleeOf, axOp, ev, keep, okk_some, put, getD_self, List.length_set, et_P, loadA, readAt, agg3, hl]
  refine hK_ _ ?_
  clear hK_
  refine WOps.cons rfl fun K_ hK_ => ?_
  simp (config := { decide := true }) only [WOne, calleeOf, axOp, ev, keep, okk_some, put, getD_self, getD_ne, List.length_set, et_P, addA, Nat.add_zero, size3, F29_0, hl]
  refine hK_ _ ?_
  clear hK_
  refine WOps.cons rfl fun K_ hK_ => ?_
  simp (config := { decide := true }) only [WOne, List.getElem?_cons_zero, List.getElem?_cons_succ, calleeOf, axOp, ev, keep, okk_some, put, getD_self, List.length_set, et_P, loadA, readAt, agg3, hl]
  refine hK_ _ ?_
  clear hK_
  refine WOps.cons rfl fun K_ hK_ => ?_
  simp (config := { decide := true }) only [WOne, calleeOf, axOp, ev, evs, okk_some, put, getD_self, getD_ne, List.length_set, et_P, hl, hmx]
  refine hK_ _ ?_
  clear hK_ hmx
  rw [hk]
  refine WOps.cons rfl fun K_ hK_ => ?_
  simp (config := { decide := true }) only [WOne, calleeOf, axOp, ev, keep, okk_some, put, getD_self, List.length_set, hl]
  refine hK_ _ ?_
  clear hK_
  simp only [WOps]
  refine hK _ ?_
  clear hK
  have hA0 : (fun K : Heap => K[0]? = some (.cells [.int .i64 (x : Int), .bool ng, a, b]) ∧ K[1]? = some (.cells [.int .i64 (y : Int), .bool nh, c, d])) [.cells [.int .i64 (x : Int), .bool ng, a, b], .cells [.int .i64 (y : Int), .bool nh, c, d], .cells [.int .i64 0, .bool false, .nilsl, .nilsl]] := ⟨rfl, rfl⟩
  refine W.seqk fun K hK => W.regionl (fun K : Heap => K[0]? = some (.cells [.int .i64 (x : Int), .bool ng, a, b]) ∧ K[1]? = some (.cells [.int .i64 (y : Int), .bool nh, c, d])) false (by kernel_rfl) hA0 ?_
  have hAof : ∀ K : Heap, (K[0]? = some (.cells [.int .i64 (x : Int), .bool ng, a, b]) ∧ K[1]? = some (.cells [.int .i64 (y : Int), .bool nh, c, d])) ∨ K = [.cells [.int .i64 (x : Int), .bool ng, a, b], .cells [.int .i64 (y : Int), .bool nh, c, d], .cells [.int .i64 0, .bool false, .nilsl, .nilsl]] → K[0]? = some (.cells [.int .i64 (x : Int), .bool ng, a, b]) ∧ K[1]? = some (.cells [.int .i64 (y : Int), .bool nh, c, d]) := by
    rintro K (h | rfl)
    · exact h
    · exact ⟨rfl, rfl⟩
  refine WD.quiet rfl rfl (fun K_ hK_ => by
    have hA_ := hAof K_ (hK_.elim .inl fun e => .inr (by simpa using e))
    simp (config := { decide := true }) only [axOp, ev, keep, if_true, getD_self, getD_ne, size29, agg29, et_P, loadA, readAt, List.drop_zero, List.take_succ_cons, List.take_zero, List.length_cons, List.length_nil, Nat.zero_add, Nat.reduceAdd, Nat.reduceLeDiff, hl, hA_]
    try exact rfl) rfl ?_
  refine WD.quiet rfl rfl (fun K_ hK_ => by
    have hA_ := hAof K_ (hK_.elim .inl fun e => .inr (by simpa using e))
    simp (config := { decide := true }) only [axOp, ev, keep, put, getD_self, getD_ne, List.length_set, hl]
    try exact rfl) rfl ?_
  refine WD.loud rfl rfl fun K_ hK_ => ?_
  simp (config := { decide := true }) only [WOne, calleeOf, ev, evs, put, getD_self, getD_ne, List.length_set, hl]
  refine call_known (by decide) (viewL_two (view_cv hp' _) (view_flat (v := .int .i64 ((k + 1 : Nat) : Int)) rfl _ 39)) (coefs_spec k L n _ hpk hL1 (by omega)) fun A hA => ?_
  simp only [AX.kill, List.append_nil]
  refine hK_ _ _ (fun _ => hA0) ?_
  clear hK_
  obtain ⟨la, hla, hA⟩ := hA k L n rfl hpk hL1
  refine WD.quiet rfl rfl (fun K_ hK_ => by
    have hA_ := hAof K_ (hK_.elim .inl fun e => .inr (by simpa using e))
    simp (config := { decide := true }) only [axOp, ev, keep, put, if_true, getD_self, getD_ne, List.length_set, size29, agg29, et_P, loadA, readAt, List.drop_zero, List.take_succ_cons, List.take_zero, List.length_cons, List.length_nil, Nat.zero_add, Nat.reduceAdd, Nat.reduceLeDiff, hl, hA_]
    try exact rfl) rfl ?_
  refine WD.quiet rfl rfl (fun K_ hK_ => by
    have hA_ := hAof K_ (hK_.elim .inl fun e => .inr (by simpa using e))
    simp (config := { decide := true }) only [axOp, ev, keep, put, getD_self, getD_ne, List.length_set, hl]
    try exact rfl) rfl ?_
  refine WD.loud rfl rfl fun K_ hK_ => ?_
  simp (config := { decide := true }) only [WOne, calleeOf, ev, evs, put, getD_self, getD_ne, List.length_set, hl]
  refine call_known (by decide) (viewL_two (view_cv hq' _) (view_flat (v := .int .i64 ((k + 1 : Nat) : Int)) rfl _ 39)) (coefs_spec k M m _ hqk hM1 (by omega)) fun B hB => ?_
  simp only [AX.kill, List.append_nil]
  refine hK_ _ _ (fun _ => hA0) ?_
  clear hK_
  obtain ⟨lb, hlb, hB⟩ := hB k M m rfl hqk hM1
  refine WD.quiet rfl rfl (fun K_ hK_ => by
    have hA_ := hAof K_ (hK_.elim .inl fun e => .inr (by simpa using e))
    simp (config := { decide := true }) only [axOp, ev, keep, put, getD_self, getD_ne, List.length_set, hl]
    try exact rfl) rfl ?_
  refine WD.quiet rfl rfl (fun K_ hK_ => by
    have hA_ := hAof K_ (hK_.elim .inl fun e => .inr (by simpa using e))
    simp (config := { decide := true }) only [axOp, ev, keep, put, getD_self, getD_ne, List.length_set, hl]
    try exact rfl) rfl ?_
  simp only [WD]
  refine hK _ ?_
  clear hK hA0 hAof
  have hlaL : la ≤ L := by obtain ⟨_, _, _, _, h, _⟩ := hA; exact h
  have hlbM : lb ≤ M := by obtain ⟨_, _, _, _, h, _⟩ := hB; exact h
  have hw1 : IntKind.i64.wrap ((la : Int) + (lb : Int)) = ((la + lb : Nat) : Int) := by rw [wrapN] <;> omega
  have hw2 : IntKind.i64.wrap (((la + lb : Nat) : Int) - 1) = ((la + lb - 1 : Nat) : Int) := by rw [wrapN] <;> omega
  have hroom : ((la + lb - 1) * 64 ≤ roomA) = True := by simp only [eq_iff_iff, iff_true]; unfold roomA; omega
  refine W.seqk fun K hK => W.region ?_
  refine WOps.cons rfl fun K_ hK_ => ?_
  simp (config := { decide := true }) only [WOne, calleeOf, axOp, ev, keep, okk_some, put, getD_self, getD_ne, List.length_set, hl]
  refine hK_ _ ?_
  clear hK_
  refine WOps.cons rfl fun K_ hK_ => ?_
  simp (config := { decide := true }) only [WOne, calleeOf, axOp, ev, evs, okk_some, put, getD_self, List.length_set, et_P, hl, hA.len]
  refine hK_ _ ?_
  clear hK_
  refine WOps.cons rfl fun K_ hK_ => ?_
  simp (config := { decide := true }) only [WOne, calleeOf, axOp, ev, keep, okk_some, put, getD_self, getD_ne, List.length_set, hl]
  refine hK_ _ ?_
  clear hK_
  refine WOps.cons rfl fun K_ hK_ => ?_
  simp (config := { decide := true }) only [WOne, calleeOf, axOp, ev, evs, okk_some, put, getD_self, List.length_set, et_P, hl, hB.len]
  refine hK_ _ ?_
  clear hK_
  refine WOps.cons rfl fun K_ hK_ => ?_
  simp (config := { decide := true }) only [WOne, calleeOf, axOp, ev, keep, okk_some, put, if_true, getD_self, getD_ne, List.length_set, binA, intOp, hl, hw1]
  refine hK_ _ ?_
  clear hK_
  refine WOps.cons rfl fun K_ hK_ => ?_
  simp (config := { decide := true }) only [WOne, calleeOf, axOp, ev, keep, okk_some, put, if_true, ofValue, getD_self, List.length_set, binA, intOp, hl, hw2]
  refine hK_ _ ?_
  clear hK_
  refine WOps.cons rfl fun K_ hK_ => ?_
  simp (config := { decide := true }) only [WOne, calleeOf, axOp, ev, okk_some, put, if_true, getD_self, List.length_set, P27, size29, et_P, decide_true, hl, asNat_nat, bytes29, zero29, hroom, cells_agg, one_int, one_bool, one_nilsl, List.all_cons, List.all_nil, Nat.le_refl, Bool.and_self, List.length_cons, List.length_nil, List.nil_append, Nat.zero_add, Nat.reduceAdd, List.cons_append]
  refine hK_ _ ?_
  clear hK_
  obtain ⟨og1, og2⟩ := copies_grp (CV k (L + M) (n + m + k * L)) [.int .i64 0, .bool false, .nilsl, .nilsl] rfl (zero_cv _ _ _) (la + lb - 1)
  generalize copies (la + lb - 1) [AV.int .i64 0, .bool false, .nilsl, .nilsl] = out at og1 og2 ⊢
  refine WOps.cons rfl fun K_ hK_ => ?_
  simp (config := { decide := true }) only [WOne, calleeOf, axOp, ev, keep, okk_some, put, getD_self, List.length_set, hl]
  refine hK_ _ ?_
  clear hK_
  simp only [WOps]
  refine hK _ ?_
  clear hK
  refine W.seqk fun K1 hK1 => ?_
  refine W.seqk fun K hK => W.region ?_
  refine WOps.cons rfl fun K_ hK_ => ?_
  simp (config := { decide := true }) only [WOne, calleeOf, axOp, ev, keep, okk_some, put, getD_self, getD_ne, List.length_set, hl]
  refine hK_ _ ?_
  clear hK_
  refine WOps.cons rfl fun K_ hK_ => ?_
  simp (config := { decide := true }) only [WOne, calleeOf, axOp, ev, evs, okk_some, put, getD_self, List.length_set, et_P, hl, hA.len]
  refine hK_ _ ?_
  clear hK_
  refine WOps.cons rfl fun K_ hK_ => ?_
  simp (config := { decide := true }) only [WOne, calleeOf, axOp, ev, keep, okk_some, put, ofValue]
  refine hK_ _ ?_
  clear hK_
  simp only [WOps]
  refine hK _ ?_
  clear hK
  generalize hwb : n + m + k * L = wb at og2
  generalize hN : la + lb - 1 = N at og1 og2 hw2 hroom
  have hkL : k * L ≤ 4 * L := Nat.mul_le_mul_right L (by omega)
  refine W.block (W.loop (fun u s => ∃ out, s.H[0]? = some (.cells [.int .i64 (x : Int), .bool ng, a, b]) ∧ s.H[1]? = some (.cells [.int .i64 (y : Int), .bool nh, c, d]) ∧ s.H[2]? = some (.cells [.int .i64 0, .bool false, .nilsl, .nilsl]) ∧ s.H[3]? = some (.cells out) ∧ 4 ≤ s.H.length ∧
    s.T.length = 79 ∧ s.T.getD 4 .undef = .ptr 2 0 ∧ s.T.getD 5 .undef = .int .i64 ((k + 1 : Nat) : Int) ∧ s.T.getD 7 .undef = B ∧ s.T.getD 8 .undef = .sl 3 0 N 4 (some N) ∧ s.T.getD 45 .undef = A ∧ s.T.getD 46 .undef = .int .i64 la ∧ ∃ i : Nat, i + u = la ∧ s.T.getD 47 .undef = .int .i64 i ∧ GrpI N (fun _ => CV k (L + M) (wb + i)) out) (n := la) ?_ ?_)
  · refine ⟨out, rfl, rfl, rfl, rfl, by simp, ?_, ?_, ?_, ?_, ?_, ?_, ?_, 0, Nat.zero_add _, ?_, ⟨og1, og2⟩⟩ <;> simp (config := { decide := true }) only [getD_self, getD_ne, List.length_set, hl, Int.natCast_zero]
  · clear hl h0 h1 og1 og2
    rintro u ⟨T', H'⟩ ⟨out, H0, H1, H2, H3, H4, hl', h4', h5', h7', h8', h45, h46, i, hiu, h47, hg⟩
    simp only at H0 H1 H2 H3 H4 hl' h4' h5' h7' h8' h45 h46 h47
    by_cases hlt : i < la
    · have hb1 : ((i : Int) < (la : Int)) = True := by simp [hlt]
      have hwi : IntKind.i64.wrap ((i : Int) + 1) = ((i + 1 : Nat) : Int) := by rw [wrapN] <;> omega
      obtain ⟨pp, px, hpp, hldp, hpx⟩ := hA.get hlt
      have hpx4 := cv_len hpx
      have hpxf := pv_flat hpx.pv
      refine W.seqk fun K hK => W.region ?_
      refine WOps.cons rfl fun K_ hK_ => ?_
      simp (config := { decide := true }) only [WOne, calleeOf, axOp, ev, keep, okk_some, put, if_true, binA, intOp, decide_true, h46, h47, hb1]
      refine hK_ _ ?_
      clear hK_
      simp only [WOps]
      refine hK _ ?_
      clear hK
      refine W.seqk fun K hK => W.cond (b := true) (by simp (config := { decide := true }) only [ev, getD_self, hl']) (fun _ => ?_) (fun h => by simp at h)
      refine W.skip (hK _ ?_)
      clear hK
      refine W.seqk fun K2 hK2 => W.block ?_
      refine W.seqk fun K hK => W.region ?_
      refine WOps.cons rfl fun K_ hK_ => ?_
      simp (config := { decide := true }) only [WOne, calleeOf, axOp, ev, keep, okk_some, put, getD_ne, h47]
      refine hK_ _ ?_
      clear hK_
      refine WOps.cons rfl fun K_ hK_ => ?_
      simp (config := { decide := true }) only [WOne, calleeOf, axOp, ev, keep, okk_some, put, getD_ne, Option.bind_some, et_P, h45, h47, asNat_nat, hpp]
      refine hK_ _ ?_
      clear hK_
      refine WOps.cons rfl fun K_ hK_ => ?_
      simp (config := { decide := true }) only [WOne, calleeOf, axOp, ev, keep, okk_some, put, getD_self, List.length_set, et_P, hl', hldp]
      refine hK_ _ ?_
      clear hK_
      refine WOps.cons rfl fun K_ hK_ => ?_
      simp (config := { decide := true }) only [WOne, calleeOf, axOp, okk_some, put, if_true, et_P, newA, cells_agg, zero29]
      refine hK_ _ ?_
      clear hK_
      refine WOps.cons rfl fun K_ hK_ => ?_
      simp (config := { decide := true }) only [WOne, calleeOf, axOp, ev, keep, okk_some, put, getD_self, getD_ne, List.length_set, hl']
      refine hK_ _ ?_
      clear hK_
      refine WOps.cons rfl fun K_ hK_ => ?_
      simp (config := { decide := true }) only [WOne, calleeOf, axOp, ev, okk_some, put, getD_self, getD_ne, List.length_set, et_P, hl', store_new (z := [.int .i64 0, .bool false, .nilsl, .nilsl]) rfl hpx4 hpxf]
      refine hK_ _ ?_
      clear hK_
      simp only [WOps]
      refine hK _ ?_
      clear hK
      refine W.seqk fun K hK => W.region ?_
      refine WOps.cons rfl fun K_ hK_ => ?_
      simp (config := { decide := true }) only [WOne, calleeOf, axOp, ev, keep, okk_some, put, getD_ne, h7']
      refine hK_ _ ?_
      clear hK_
      refine WOps.cons rfl fun K_ hK_ => ?_
      simp (config := { decide := true }) only [WOne, calleeOf, axOp, ev, evs, okk_some, put, getD_self, List.length_set, et_P, hl', hB.len]
      refine hK_ _ ?_
      clear hK_
      refine WOps.cons rfl fun K_ hK_ => ?_
      simp (config := { decide := true }) only [WOne, calleeOf, axOp, ev, keep, okk_some, put, ofValue]
      refine hK_ _ ?_
      clear hK_
      simp only [WOps]
      refine hK _ ?_
      clear hK
      refine W.block (W.loop (fun v s => ∃ out, s.H[0]? = some (.cells [.int .i64 (x : Int), .bool ng, a, b]) ∧ s.H[1]? = some (.cells [.int .i64 (y : Int), .bool nh, c, d]) ∧ s.H[2]? = some (.cells [.int .i64 0, .bool false, .nilsl, .nilsl]) ∧ s.H[3]? = some (.cells out) ∧ s.H[H'.length]? = some (.cells px) ∧
        s.T.length = 79 ∧ s.T.getD 4 .undef = .ptr 2 0 ∧ s.T.getD 5 .undef = .int .i64 ((k + 1 : Nat) : Int) ∧ s.T.getD 7 .undef = B ∧ s.T.getD 8 .undef = .sl 3 0 N 4 (some N) ∧ s.T.getD 9 .undef = .int .i64 i ∧ s.T.getD 10 .undef = .ptr H'.length 0 ∧ s.T.getD 45 .undef = A ∧ s.T.getD 46 .undef = .int .i64 la ∧ s.T.getD 47 .undef = .int .i64 i ∧ s.T.getD 52 .undef = B ∧ s.T.getD 53 .undef = .int .i64 lb ∧
        ∃ j : Nat, j + v = lb ∧ s.T.getD 54 .undef = .int .i64 j ∧ GrpI N (fun t c => CV k (L + M) (if i ≤ t ∧ t < i + j then wb + i + 1 else wb + i) c) out) (n := lb) ?_ ?_)
      · refine ⟨out, ?_, ?_, ?_, ?_, by simp, ?_, ?_, ?_, ?_, ?_, ?_, ?_, ?_, ?_, ?_, ?_, ?_, 0, Nat.zero_add _, ?_, hg.1, fun t ht => ?_⟩
        rotate_right
        · have := hg.2 t ht
          simp only at this ⊢
          rw [if_neg (by omega)]; exact this
        iterate 4 (rw [List.getElem?_append_left (by omega)]; assumption)
        all_goals simp (config := { decide := true }) only [getD_self, getD_ne, List.length_set, hl', h4', h5', h7', h8', h45, h46, h47, Int.natCast_zero]
      · clear hl' h4' h5' h7' h8' h45 h46 h47 H0 H1 H2 H3 hg
        rintro v ⟨T2, G⟩ ⟨out, H0, H1, H2, H3, Hp, hl', h4', h5', h7', h8', h9', h10', h45, h46, h47, h52, h53, j, hjv, h54, hg⟩
        simp only at H0 H1 H2 H3 Hp hl' h4' h5' h7' h8' h9' h10' h45 h46 h47 h52 h53 h54
        have G4 : 4 ≤ G.length := by have := (List.getElem?_eq_some_iff.1 H3).1; omega
        have Gp : H'.length < G.length := (List.getElem?_eq_some_iff.1 Hp).1
        by_cases hj : j < lb
        · have hb2 : ((j : Int) < (lb : Int)) = True := by simp [hj]
          have hwj : IntKind.i64.wrap ((j : Int) + 1) = ((j + 1 : Nat) : Int) := by rw [wrapN] <;> omega
          have hwij : IntKind.i64.wrap ((i : Int) + (j : Int)) = ((i + j : Nat) : Int) := by rw [wrapN] <;> omega
          obtain ⟨pq, qx, hpq, hldq, hqx⟩ := hB.get hj
          have hqx4 := cv_len hqx
          have hqxf := pv_flat hqx.pv
          have hij : i + j < N := by omega
          refine W.seqk fun K hK => W.region ?_
          refine WOps.cons rfl fun K_ hK_ => ?_
          simp (config := { decide := true }) only [WOne, calleeOf, axOp, ev, keep, okk_some, put, if_true, binA, intOp, decide_true, h53, h54, hb2]
          refine hK_ _ ?_
          clear hK_
          simp only [WOps]
          refine hK _ ?_
          clear hK
          refine W.seqk fun K hK => W.cond (b := true) (by simp (config := { decide := true }) only [ev, getD_self, hl']) (fun _ => ?_) (fun h => by simp at h)
          refine W.skip (hK _ ?_)
          clear hK
          refine W.seqk fun K3 hK3 => W.block ?_
          refine W.seqk fun K hK => W.region ?_
          refine WOps.cons rfl fun K_ hK_ => ?_
          simp (config := { decide := true }) only [WOne, calleeOf, axOp, ev, keep, okk_some, put, getD_ne, h54]
          refine hK_ _ ?_
          clear hK_
          refine WOps.cons rfl fun K_ hK_ => ?_
          simp (config := { decide := true }) only [WOne, calleeOf, axOp, ev, keep, okk_some, put, getD_ne, Option.bind_some, et_P, h52, h54, asNat_nat, hpq]
          refine hK_ _ ?_
          clear hK_
          refine WOps.cons rfl fun K_ hK_ => ?_
          simp (config := { decide := true }) only [WOne, calleeOf, axOp, ev, keep, okk_some, put, getD_self, List.length_set, et_P, hl', hldq]
          refine hK_ _ ?_
          clear hK_
          refine WOps.cons rfl fun K_ hK_ => ?_
          simp (config := { decide := true }) only [WOne, calleeOf, axOp, okk_some, put, if_true, et_P, newA, cells_agg, zero29]
          refine hK_ _ ?_
          clear hK_
          refine WOps.cons rfl fun K_ hK_ => ?_
          simp (config := { decide := true }) only [WOne, calleeOf, axOp, ev, keep, okk_some, put, getD_self, getD_ne, List.length_set, hl']
          refine hK_ _ ?_
          clear hK_
          refine WOps.cons rfl fun K_ hK_ => ?_
          simp (config := { decide := true }) only [WOne, calleeOf, axOp, ev, okk_some, put, getD_self, getD_ne, List.length_set, et_P, hl', store_new (z := [.int .i64 0, .bool false, .nilsl, .nilsl]) rfl hqx4 hqxf]
          refine hK_ _ ?_
          clear hK_
          simp only [WOps]
          refine hK _ ?_
          clear hK
          have A3 : (G ++ [Blk.cells qx])[3]? = some (.cells out) := by rw [List.getElem?_append_left (by omega)]; exact H3
          have Ap : (G ++ [Blk.cells qx])[H'.length]? = some (.cells px) := by rw [List.getElem?_append_left (by omega)]; exact Hp
          have hA0 : (fun K : Heap => K[3]? = some (.cells out) ∧ K[H'.length]? = some (.cells px) ∧ K[G.length]? = some (.cells qx)) (G ++ [Blk.cells qx]) := ⟨A3, Ap, by simp⟩
          refine W.regionl (fun K : Heap => K[3]? = some (.cells out) ∧ K[H'.length]? = some (.cells px) ∧ K[G.length]? = some (.cells qx)) false (by kernel_rfl) hA0 ?_
          have hAof : ∀ K : Heap, (K[3]? = some (.cells out) ∧ K[H'.length]? = some (.cells px) ∧ K[G.length]? = some (.cells qx)) ∨ K = G ++ [Blk.cells qx] → K[3]? = some (.cells out) ∧ K[H'.length]? = some (.cells px) ∧ K[G.length]? = some (.cells qx) := by
            rintro K (h | rfl)
            · exact h
            · exact hA0
          have ldc : ∀ (K : Heap) (id : Nat) (q : List AV), q.length = 4 → K[id]? = some (.cells q) → loadA Tryz.prog K 29 (.ptr id 0) = some (.agg q) := by
            intro K id q h4 hK
            simp [loadA, hK, readAt, agg29, size29, h4]
            exact List.take_of_length_le (by omega)
          have hold := hg.2 (i + j) hij
          generalize hge : (out.drop ((i + j) * 4)).take 4 = g at hold
          have hold' : CV k (L + M) (wb + i) g := by rw [if_neg (by omega)] at hold; exact hold
          refine WD.quiet rfl rfl (fun K_ hK_ => by
            have hA_ := hAof K_ hK_
            simp (config := { decide := true }) only [axOp, ev, keep, getD_ne, h8']
            try exact rfl) rfl ?_
          refine WD.quiet rfl rfl (fun K_ hK_ => by
            have hA_ := hAof K_ hK_
            simp (config := { decide := true }) only [axOp, ev, keep, put, getD_ne, h9']
            try exact rfl) rfl ?_
          refine WD.quiet rfl rfl (fun K_ hK_ => by
            have hA_ := hAof K_ hK_
            simp (config := { decide := true }) only [axOp, ev, keep, put, getD_self, getD_ne, List.length_set, hl']
            try exact rfl) rfl ?_
          refine WD.quiet rfl rfl (fun K_ hK_ => by
            have hA_ := hAof K_ hK_
            simp (config := { decide := true }) only [axOp, ev, keep, put, if_true, getD_self, getD_ne, List.length_set, binA, intOp, hl', hwij]
            try exact rfl) rfl ?_
          refine WD.quiet rfl rfl (fun K_ hK_ => by
            have hA_ := hAof K_ hK_
            simp (config := { decide := true }) only [axOp, ev, keep, put, getD_ne, h8']
            try exact rfl) rfl ?_
          refine WD.quiet rfl rfl (fun K_ hK_ => by
            have hA_ := hAof K_ hK_
            simp (config := { decide := true }) only [axOp, ev, keep, put, getD_ne, h9']
            try exact rfl) rfl ?_
          refine WD.quiet rfl rfl (fun K_ hK_ => by
            have hA_ := hAof K_ hK_
            simp (config := { decide := true }) only [axOp, ev, keep, put, getD_self, getD_ne, List.length_set, hl']
            try exact rfl) rfl ?_
          refine WD.quiet rfl rfl (fun K_ hK_ => by
            have hA_ := hAof K_ hK_
            simp (config := { decide := true }) only [axOp, ev, keep, put, if_true, getD_self, getD_ne, List.length_set, binA, intOp, hl', hwij]
            try exact rfl) rfl ?_
          refine WD.quiet rfl rfl (fun K_ hK_ => by
            have hA_ := hAof K_ hK_
            simp (config := { decide := true }) only [axOp, ev, keep, put, getD_self, getD_ne, List.length_set, Option.bind_some, et_P, hl', asNat_nat, index29 (id := 3) (cap := some N) hij]
            try exact rfl) rfl ?_
          refine WD.quiet rfl rfl (fun K_ hK_ => by
            have hA_ := hAof K_ hK_
            simp (config := { decide := true }) only [axOp, ev, keep, put, getD_self, List.length_set, et_P, hl', load29I hA_.1 hg hij, hge]
            try exact rfl) rfl ?_
          refine WD.quiet rfl rfl (fun K_ hK_ => by
            have hA_ := hAof K_ hK_
            simp (config := { decide := true }) only [axOp, ev, keep, put, getD_ne, et_P, h10', ldc K_ _ _ hpx4 hA_.2.1]
            try exact rfl) rfl ?_
          refine WD.quiet rfl rfl (fun K_ hK_ => by
            have hA_ := hAof K_ hK_
            simp (config := { decide := true }) only [axOp, ev, keep, put, getD_self, getD_ne, List.length_set, et_P, hl', ldc K_ _ _ hqx4 hA_.2.2]
            try exact rfl) rfl ?_
          refine WD.loud rfl rfl fun K_ hK_ => ?_
          simp (config := { decide := true }) only [WOne, calleeOf, ev, evs, put, getD_self, getD_ne, List.length_set, hl']
          refine call_known (by decide) (viewL_two (view_cv hpx _) (view_cv hqx _)) (mul_spec_of hpx hqx hL1 hM1 fun l' L' M' n' m' g1 g2 g3 g4 g5 g6 g7 g8 g9 => ih l' (by omega) L' M' n' m' px qx g6 g7 g8 g9 (by omega) (by omega) (by omega) (by omega) (by omega)) fun z hz => ?_
          simp only [AX.kill, List.append_nil]
          refine hK_ _ _ (fun _ => hA0) ?_
          clear hK_
          obtain ⟨zc, rfl, hzv⟩ := hz k L M n m hpx hqx hL1 hM1
          have hzv' : CV k (L + M) (wb + i) zc := CV.mono (Nat.le_refl _) (by omega) hzv
          refine WD.loud rfl rfl fun K_ hK_ => ?_
          simp (config := { decide := true }) only [WOne, calleeOf, ev, evs, put, getD_self, getD_ne, List.length_set, hl']
          refine call_known (by decide) (viewL_two (view_cv hold' _) (view_cv hzv' _)) (padd_spec hold' hzv' (by omega) (by omega) (by omega)) fun w hw => ?_
          simp only [AX.kill, List.append_nil]
          refine hK_ _ _ (fun _ => hA0) ?_
          clear hK_
          obtain ⟨wc, rfl, hwv⟩ := hw k (L + M) (wb + i) hold' hzv' (by omega)
          obtain ⟨cs', st', hg'⟩ := store29I (P' := fun t c => CV k (L + M) (if i ≤ t ∧ t < i + (j + 1) then wb + i + 1 else wb + i) c) A3 hg hij (by rw [if_pos (by omega)]; exact hwv) (cv_len hwv) (pv_flat hwv.pv) (fun t c ht h => by
            have : (i ≤ t ∧ t < i + (j + 1)) ↔ (i ≤ t ∧ t < i + j) := by omega
            simp only [this]
            exact h)
          refine WD.quiet rfl rfl (fun K_ hK_ => by
            have hA_ := hAof K_ hK_
            simp (config := { decide := true }) only [axOp, ev, keep, put, getD_self, getD_ne, List.length_set, Option.bind_some, et_P, hl', asNat_nat, index29 (id := 3) (cap := some N) hij]
            try exact rfl) rfl ?_
          refine WD.loud rfl rfl fun K_ hK_ => ?_
          simp (config := { decide := true }) only [WOne, calleeOf, axOp, ev, okk_some, put, getD_self, getD_ne, List.length_set, et_P, hl', st']
          refine hK_ _ _ (fun h => absurd h (by decide)) ?_
          clear hK_
          simp only [WD, Th, outOf]
          refine hK3 _ (W.region ?_)
          clear hK3
          refine WOps.cons rfl fun K_ hK_ => ?_
          simp (config := { decide := true }) only [WOne, calleeOf, axOp, ev, keep, okk_some, put, if_true, ofValue, getD_ne, binA, intOp, h54, hwj]
          refine hK_ _ ?_
          clear hK_
          refine WOps.cons rfl fun K_ hK_ => ?_
          simp (config := { decide := true }) only [WOne, calleeOf, axOp, ev, keep, okk_some, put, getD_self, List.length_set, hl']
          refine hK_ _ ?_
          clear hK_
          simp only [WOps, Th]
          have keep : ∀ t, t ≠ 3 → t < G.length → ((G ++ [Blk.cells qx]).set 3 (.cells cs'))[t]? = G[t]? := by
            intro t h3 hlt
            rw [List.getElem?_set_ne (Ne.symm h3), List.getElem?_append_left hlt]
          refine ⟨lb - (j + 1), by omega, cs', by rw [keep 0 (by decide) (by omega)]; exact H0, by rw [keep 1 (by decide) (by omega)]; exact H1, by rw [keep 2 (by decide) (by omega)]; exact H2, by rw [List.getElem?_set_self (by simp; omega)], by rw [keep _ (by omega) Gp]; exact Hp, ?_, ?_, ?_, ?_, ?_, ?_, ?_, ?_, ?_, ?_, ?_, ?_, j + 1, by omega, ?_, hg'⟩ <;> simp (config := { decide := true }) only [getD_self, getD_ne, List.length_set, hl', h4', h5', h7', h8', h9', h10', h45, h46, h47, h52, h53]
        · have hb2 : ((j : Int) < (lb : Int)) = False := by simp; omega
          refine W.seqk fun K hK => W.region ?_
          refine WOps.cons rfl fun K_ hK_ => ?_
          simp (config := { decide := true }) only [WOne, calleeOf, axOp, ev, keep, okk_some, put, if_true, binA, intOp, decide_false, h53, h54, hb2]
          refine hK_ _ ?_
          clear hK_
          simp only [WOps]
          refine hK _ ?_
          clear hK
          refine W.seqk fun K hK => W.cond (b := false) (by simp (config := { decide := true }) only [ev, getD_self, hl']) (fun h => by simp at h) (fun _ => W.exit ?_)
          simp only [Th, outOf, if_true]
          refine hK2 _ (W.region ?_)
          clear hK2
          refine WOps.cons rfl fun K_ hK_ => ?_
          simp (config := { decide := true }) only [WOne, calleeOf, axOp, ev, keep, okk_some, put, if_true, ofValue, getD_ne, binA, intOp, h47, hwi]
          refine hK_ _ ?_
          clear hK_
          refine WOps.cons rfl fun K_ hK_ => ?_
          simp (config := { decide := true }) only [WOne, calleeOf, axOp, ev, keep, okk_some, put, getD_self, List.length_set, hl']
          refine hK_ _ ?_
          clear hK_
          simp only [WOps, Th]
          refine ⟨la - (i + 1), by omega, out, H0, H1, H2, H3, by omega, ?_, ?_, ?_, ?_, ?_, ?_, ?_, i + 1, by omega, ?_, hg.1, fun t ht => ?_⟩
          rotate_right
          · have := hg.2 t ht
            simp only at this
            refine CV.mono (Nat.le_refl _) ?_ this
            split <;> omega
          all_goals simp (config := { decide := true }) only [getD_self, getD_ne, List.length_set, hl', h4', h5', h7', h8', h45, h46]
    · have hb1 : ((i : Int) < (la : Int)) = False := by simp; omega
      have hil : i = la := by omega
      subst hil
      refine W.seqk fun K hK => W.region ?_
      refine WOps.cons rfl fun K_ hK_ => ?_
      simp (config := { decide := true }) only [WOne, calleeOf, axOp, ev, keep, okk_some, put, if_true, binA, intOp, decide_false, h46, h47, hb1]
      refine hK_ _ ?_
      clear hK_
      simp only [WOps]
      refine hK _ ?_
      clear hK
      refine W.seqk fun K hK => W.cond (b := false) (by simp (config := { decide := true }) only [ev, getD_self, hl']) (fun h => by simp at h) (fun _ => W.exit ?_)
      simp only [Th, outOf, if_true]
      refine hK1 _ ?_
      clear hK1
      have hgl : ∀ t, t < N → CV k (L + M) (wb + i) ((out.drop (t * 4)).take 4) := hg.2
      have hpl : PL k (L + M) (wb + i) (.lst out N (some N)) N := ⟨out, some N, rfl, hg.1, by omega, hgl⟩
      have hvw : view H' depthA (.sl 3 0 N 4 (some N)) = some (.lst out N (some N), [3]) := by
        have := hg.1
        rw [view_slflat (cs := out) H3 (by omega) (CV.flats hg.1 hgl), List.drop_zero, List.take_of_length_le (by omega)]
      refine W.seqk fun K hK => W.region ?_
      refine WOps.cons rfl fun K_ hK_ => ?_
      simp (config := { decide := true }) only [WOne, calleeOf, axOp, ev, keep, okk_some, put, getD_ne, h5']
      refine hK_ _ ?_
      clear hK_
      refine WOps.cons rfl fun K_ hK_ => ?_
      simp (config := { decide := true }) only [WOne, calleeOf, axOp, ev, keep, okk_some, put, getD_ne, h8']
      refine hK_ _ ?_
      clear hK_
      refine WOps.cons rfl fun K_ hK_ => ?_
      simp (config := { decide := true }) only [WOne, calleeOf, ev, evs, put, getD_self, getD_ne, List.length_set, hl']
      refine call_known (by decide) (viewL_two (a := .int .i64 ((k + 1 : Nat) : Int)) (ids := []) rfl hvw) (join_spec k (L + M) (wb + i) N _ hpl (by omega) (by omega)) fun z hz => ?_
      simp only [AX.kill, List.nil_append]
      refine hK_ _ ?_
      clear hK_
      obtain ⟨zc, rfl, hzv⟩ := hz k (L + M) (wb + i) N rfl hpl
      have hz4 := cv_len hzv
      have hzf := pv_flat hzv.pv
      have st2 : storeA Tryz.prog (H'.set 3 .dead) 29 (.ptr 2 0) (.agg zc) = some ((H'.set 3 .dead).set 2 (.cells zc)) := by
        have h2 : (H'.set 3 .dead)[2]? = some (.cells [.int .i64 0, .bool false, .nilsl, .nilsl]) := by rw [List.getElem?_set_ne (by decide)]; exact H2
        simp [storeA, h2, size29, AV.cells, hz4, writeAt, all_one_flat hzf]
      refine WOps.cons rfl fun K_ hK_ => ?_
      simp (config := { decide := true }) only [WOne, calleeOf, axOp, ev, okk_some, put, getD_self, getD_ne, List.length_set, et_P, hl', h4', st2]
      refine hK_ _ ?_
      clear hK_
      simp only [WOps]
      refine hK _ ?_
      clear hK
      have hfin : wb + i ≤ n + m + l * L := by
        have : (k + 1) * L ≤ l * L := Nat.mul_le_mul_right L hkl
        rw [Nat.add_mul, Nat.one_mul] at this
        omega
      have hcv : CV l (L + M) (n + m + l * L) zc := (CV.mono (Nat.le_refl _) hfin hzv).up hkl
      have ldr : loadA Tryz.prog ((H'.set 3 .dead).set 2 (.cells zc)) 29 (.ptr 2 0) = some (.agg zc) := by
        have h2 : ((H'.set 3 Blk.dead).set 2 (.cells zc))[2]? = some (.cells zc) := by rw [List.getElem?_set_self (by simp; omega)]
        simp [loadA, h2, readAt, agg29, size29, hz4]
        exact List.take_of_length_le (by omega)
      refine W.ret ⟨.inr rfl, .agg zc, ?_, _, [], view_cv hcv _, zc, rfl, hcv⟩
      simp (config := { decide := true }) only [getD_ne, resultsA, Tryz.results91, resultsL, h4', ldr]

end Go.AX

/- AX, part 44: polynomials: a variable. -/
set_option linter.unusedVariables false
set_option linter.unusedSimpArgs false
set_option maxRecDepth 4000
namespace Go.AX
open Go Go.RowKit Go.Proofs

theorem view_slflat2 {H : Heap} {n id off len sz : Nat} {cap : Option Nat} {cs : List AV} (hc : H[id]? = some (.cells cs)) (hle : off + len * sz ≤ cs.length) (hw : ∀ c ∈ cs, isFlat c = true) :
    view H (n + 2) (.sl id off len sz cap) = some (.lst ((cs.drop off).take (len * sz)) len cap, [id]) := by
  have h := viewL_flat (H := H) (n := n) ((cs.drop off).take (len * sz)) fun c h => hw c (List.mem_of_mem_drop (List.mem_of_mem_take h))
  show (match H[id]? with | some (.cells cs) => if off + len * sz ≤ cs.length then (match viewL (view H (n + 1)) ((cs.drop off).take (len * sz)) with | some (xs, is) => some (AV.lst xs len cap, id :: is) | none => none) else none | _ => none) = _
  rw [hc]
  simp only
  rw [if_pos hle, h]

theorem var_con (lv : Int) : Con 27 [.int .i64 lv] (Spec 27 [.int .i64 lv]) := by
  refine con_of Tryz.func27 rfl ?_
  show W ET _ _ ⟨[.int .i64 lv] ++ List.replicate 15 .undef, []⟩
  generalize hT : [.int .i64 lv] ++ List.replicate 15 AV.undef = T
  have hl : T.length = 16 := by subst hT; rfl
  have h0 : T.getD 0 .undef = .int .i64 lv := by subst hT; rfl
  clear hT
  have hz : CV 4 2 2 [.int .i64 0, .bool false, .nilsl, .nilsl] := zero_cv 4 2 2
  have bad : ∀ T1 : List AV, T1.length = 16 → T1.getD 2 .undef = .ptr 0 0 → ∃ r, resultsA Tryz.prog Tryz.f27 ⟨T1, [.cells [.int .i64 0, .bool false, .nilsl, .nilsl]]⟩ = some r ∧ ∃ r' ids, view [.cells [.int .i64 0, .bool false, .nilsl, .nilsl]] depthA r = some (r', ids) ∧ Spec 27 [.int .i64 lv] r' := by
    intro T1 hl' h2
    refine ⟨.agg [.int .i64 0, .bool false, .nilsl, .nilsl], ?_, _, [], view_cv hz _, _, rfl, hz⟩
    simp (config := { decide := true }) only [List.getElem?_cons_zero, if_true, size29, agg29, loadA, readAt, List.drop_zero, List.take_succ_cons, List.take_zero, resultsA, Tryz.results27, resultsL, h2]
  refine W.seqk fun K hK => W.region ?_
  refine WOps.cons rfl fun K_ hK_ => ?_
  simp (config := { decide := true }) only [WOne, calleeOf, axOp, okk_some, put, if_true, et_P, List.length_nil, newA, cells_agg, zero29, List.nil_append]
  refine hK_ _ ?_
  clear hK_
  simp only [WOps]
  refine hK _ ?_
  clear hK
  refine W.seqk fun Ks hKs => ?_
  refine W.seqk fun K hK => W.region ?_
  by_cases hlo : lv < 1
  · have hb : (lv < 1) = True := by simp [hlo]
    refine WOps.cons rfl fun K_ hK_ => ?_
    simp (config := { decide := true }) only [WOne, calleeOf, axOp, ev, keep, okk_some, put, getD_ne, h0]
    refine hK_ _ ?_
    clear hK_
    refine WOps.cons rfl fun K_ hK_ => ?_
    simp (config := { decide := true }) only [WOne, calleeOf, axOp, ev, keep, okk_some, put, if_true, ofValue, getD_self, List.length_set, binA, intOp, decide_true, hl, hb]
    refine hK_ _ ?_
    clear hK_
    refine WOps.cons rfl fun K_ hK_ => ?_
    simp (config := { decide := true }) only [WOne, calleeOf, axOp, ev, keep, okk_some, put, getD_self, List.length_set, hl]
    refine hK_ _ ?_
    clear hK_
    refine WOps.no rfl rfl (by simp (config := { decide := true }) only [getD_self, List.length_set, Bool.not_false, hl]) ?_
    refine WOps.no rfl rfl (by simp (config := { decide := true }) only [put, getD_self, getD_ne, List.length_set, Bool.not_false, hl]) ?_
    refine WOps.cons rfl fun K_ hK_ => ?_
    simp (config := { decide := true }) only [WOne, calleeOf, axOp, ev, keep, okk_some, put, ofValue, getD_self, getD_ne, List.length_set, hl]
    refine hK_ _ ?_
    clear hK_
    simp only [WOps]
    refine hK _ ?_
    clear hK
    refine W.cond (b := true) (by simp (config := { decide := true }) only [ev, getD_self, List.length_set, hl]) (fun _ => ?_) (fun h => by simp at h)
    refine W.seqk fun K hK => W.region ?_
    refine WOps.cons rfl fun K_ hK_ => ?_
    simp (config := { decide := true }) only [WOne, calleeOf, axOp, keep, okk_some, put, Option.map_some, et_P, cells_agg, zero29, evParts, fillA, Tryz.underlying29, PL29]
    refine hK_ _ ?_
    clear hK_
    refine WOps.cons rfl fun K_ hK_ => ?_
    simp (config := { decide := true }) only [WOne, List.getElem?_cons_zero, calleeOf, axOp, ev, okk_some, put, if_true, getD_self, getD_ne, List.length_set, List.drop_succ_cons, List.drop_zero, List.take_zero, List.length_cons, List.length_nil, Nat.zero_add, Nat.reduceAdd, cells_agg, List.nil_append, List.append_nil, storeA, writeAt, List.set_cons_zero, hl]
    refine hK_ _ ?_
    clear hK_
    simp only [WOps]
    refine hK _ ?_
    clear hK
    refine W.ret ⟨.inr rfl, bad _ ?_ ?_⟩ <;> simp (config := { decide := true }) only [getD_self, getD_ne, List.length_set, hl]
  have hb : (lv < 1) = False := by simp [hlo]
  by_cases hhi : lv > 4
  · have hb2 : (lv > 4) = True := by simp [hhi]
    refine WOps.cons rfl fun K_ hK_ => ?_
    simp (config := { decide := true }) only [WOne, calleeOf, axOp, ev, keep, okk_some, put, getD_ne, h0]
    refine hK_ _ ?_
    clear hK_
    refine WOps.cons rfl fun K_ hK_ => ?_
    simp (config := { decide := true }) only [WOne, calleeOf, axOp, ev, keep, okk_some, put, if_true, ofValue, getD_self, List.length_set, binA, intOp, decide_false, hl, hb]
    refine hK_ _ ?_
    clear hK_
    refine WOps.cons rfl fun K_ hK_ => ?_
    simp (config := { decide := true }) only [WOne, calleeOf, axOp, ev, keep, okk_some, put, getD_self, List.length_set, hl]
    refine hK_ _ ?_
    clear hK_
    refine WOps.yes rfl rfl (by simp (config := { decide := true }) only [getD_self, List.length_set, hl]) fun K_ hK_ => ?_
    simp (config := { decide := true }) only [WOne, calleeOf, axOp, ev, keep, okk_some, put, getD_ne, h0]
    refine hK_ _ ?_
    clear hK_
    refine WOps.yes rfl rfl (by simp (config := { decide := true }) only [getD_self, getD_ne, List.length_set, hl]) fun K_ hK_ => ?_
    simp (config := { decide := true }) only [WOne, calleeOf, axOp, ev, keep, okk_some, put, if_true, ofValue, getD_self, List.length_set, binA, intOp, decide_true, hl, hb2]
    refine hK_ _ ?_
    clear hK_
    refine WOps.cons rfl fun K_ hK_ => ?_
    simp (config := { decide := true }) only [WOne, calleeOf, axOp, ev, keep, okk_some, put, getD_self, getD_ne, List.length_set, hl]
    refine hK_ _ ?_
    clear hK_
    simp only [WOps]
    refine hK _ ?_
    clear hK
    refine W.cond (b := true) (by simp (config := { decide := true }) only [ev, getD_self, List.length_set, hl]) (fun _ => ?_) (fun h => by simp at h)
    refine W.seqk fun K hK => W.region ?_
    refine WOps.cons rfl fun K_ hK_ => ?_
    simp (config := { decide := true }) only [WOne, calleeOf, axOp, keep, okk_some, put, Option.map_some, et_P, cells_agg, zero29, evParts, fillA, Tryz.underlying29, PL29]
    refine hK_ _ ?_
    clear hK_
    refine WOps.cons rfl fun K_ hK_ => ?_
    simp (config := { decide := true }) only [WOne, List.getElem?_cons_zero, calleeOf, axOp, ev, okk_some, put, if_true, getD_self, getD_ne, List.length_set, List.drop_succ_cons, List.drop_zero, List.take_zero, List.length_cons, List.length_nil, Nat.zero_add, Nat.reduceAdd, cells_agg, List.nil_append, List.append_nil, storeA, writeAt, List.set_cons_zero, hl]
    refine hK_ _ ?_
    clear hK_
    simp only [WOps]
    refine hK _ ?_
    clear hK
    refine W.ret ⟨.inr rfl, bad _ ?_ ?_⟩ <;> simp (config := { decide := true }) only [getD_self, getD_ne, List.length_set, hl]
  have hb2 : (lv > 4) = False := by simp [hhi]
  refine WOps.cons rfl fun K_ hK_ => ?_
  simp (config := { decide := true }) only [WOne, calleeOf, axOp, ev, keep, okk_some, put, getD_ne, h0]
  refine hK_ _ ?_
  clear hK_
  refine WOps.cons rfl fun K_ hK_ => ?_
  simp (config := { decide := true }) only [WOne, calleeOf, axOp, ev, keep, okk_some, put, if_true, ofValue, getD_self, List.length_set, binA, intOp, decide_false, hl, hb]
  refine hK_ _ ?_
  clear hK_
  refine WOps.cons rfl fun K_ hK_ => ?_
  simp (config := { decide := true }) only [WOne, calleeOf, axOp, ev, keep, okk_some, put, getD_self, List.length_set, hl]
  refine hK_ _ ?_
  clear hK_
  refine WOps.yes rfl rfl (by simp (config := { decide := true }) only [getD_self, List.length_set, hl]) fun K_ hK_ => ?_
  simp (config := { decide := true }) only [WOne, calleeOf, axOp, ev, keep, okk_some, put, getD_ne, h0]
  refine hK_ _ ?_
  clear hK_
  refine WOps.yes rfl rfl (by simp (config := { decide := true }) only [getD_self, getD_ne, List.length_set, hl]) fun K_ hK_ => ?_
  simp (config := { decide := true }) only [WOne, calleeOf, axOp, ev, keep, okk_some, put, if_true, ofValue, getD_self, List.length_set, binA, intOp, decide_false, hl, hb2]
  refine hK_ _ ?_
  clear hK_
  refine WOps.cons rfl fun K_ hK_ => ?_
  simp (config := { decide := true }) only [WOne, calleeOf, axOp, ev, keep, okk_some, put, getD_self, getD_ne, List.length_set, hl]
  refine hK_ _ ?_
  clear hK_
  simp only [WOps]
  refine hK _ ?_
  clear hK
  refine W.cond (b := false) (by simp (config := { decide := true }) only [ev, getD_self, List.length_set, hl]) (fun h => by simp at h) (fun _ => W.skip ?_)
  simp only [Th]
  refine hKs _ ?_
  clear hKs
  refine W.seqk fun K hK => W.region ?_
  refine WOps.cons rfl fun K_ hK_ => ?_
  simp (config := { decide := true }) only [WOne, calleeOf, axOp, ev, keep, okk_some, put, getD_ne, h0]
  refine hK_ _ ?_
  clear hK_
  refine WOps.cons rfl fun K_ hK_ => ?_
  simp (config := { decide := true }) only [WOne, calleeOf, axOp, keep, okk_some, put, Option.map_some, et_P, cells_agg, zero29, evParts, fillA, Tryz.underlying29, PL29]
  refine hK_ _ ?_
  clear hK_
  refine WOps.cons rfl fun K_ hK_ => ?_
  simp (config := { decide := true }) only [WOne, calleeOf, ev, evs, put, ofValue]
  refine call_known (by decide) (viewL_words1 _ _ _) (iOf_con 1) fun z hz => ?_
  simp only [AX.kill]
  refine hK_ _ ?_
  clear hK_
  obtain ⟨zb, z, rfl, hzv⟩ := hz
  have oz := one_nv hzv
  refine WOps.cons rfl fun K_ hK_ => ?_
  simp (config := { decide := true }) only [WOne, List.getElem?_cons_zero, List.getElem?_cons_succ, calleeOf, axOp, ev, keep, okk_some, put, if_true, getD_self, List.length_set, Option.map_some, et_P, List.drop_succ_cons, List.drop_zero, List.take_succ_cons, List.take_zero, List.length_cons, List.length_nil, Nat.zero_add, Nat.reduceAdd, Nat.reduceLeDiff, cells_agg, zero29, List.cons_append, List.nil_append, writeAt, evParts, fillA, Tryz.underlying29, PL29, hl]
  refine hK_ _ ?_
  clear hK_
  refine WOps.cons rfl fun K_ hK_ => ?_
  simp (config := { decide := true }) only [WOne, calleeOf, axOp, ev, okk_some, put, if_true, getD_self, getD_ne, List.length_set, P27, size29, et_P, List.drop_succ_cons, List.drop_zero, List.take_succ_cons, List.take_zero, List.length_cons, List.length_nil, Nat.zero_add, Nat.reduceAdd, Nat.reduceLeDiff, newA, cells_agg, one_bool, one_int, one_nilsl, List.all_cons, List.all_nil, Bool.and_self, zero29, List.cons_append, List.nil_append, List.append_nil, writeAt, evParts, fillA, hl, oz, copies, Nat.zero_mul, Nat.one_mul]
  refine hK_ _ ?_
  clear hK_
  refine WOps.cons rfl fun K_ hK_ => ?_
  simp (config := { decide := true }) only [WOne, List.getElem?_cons_zero, List.getElem?_cons_succ, calleeOf, axOp, ev, keep, okk_some, put, if_true, getD_self, getD_ne, List.length_set, Option.map_some, et_P, List.drop_succ_cons, List.drop_zero, List.take_succ_cons, List.take_zero, List.length_cons, List.length_nil, Nat.zero_add, Nat.reduceAdd, Nat.reduceLeDiff, cells_agg, cells_int, cells_sl, zero29, List.cons_append, List.nil_append, List.append_nil, writeAt, evParts, fillA, Tryz.underlying29, PL29, hl]
  refine hK_ _ ?_
  clear hK_
  refine WOps.cons rfl fun K_ hK_ => ?_
  simp (config := { decide := true }) only [WOne, List.getElem?_cons_zero, calleeOf, axOp, ev, okk_some, put, if_true, getD_self, getD_ne, List.length_set, size29, et_P, decide_true, List.drop_succ_cons, List.drop_zero, List.take_zero, List.length_cons, List.length_nil, Nat.zero_add, Nat.reduceAdd, Nat.reduceLeDiff, cells_agg, one_bool, one_int, one_nilsl, one_sl, List.all_cons, List.all_nil, Bool.and_self, List.nil_append, List.append_nil, storeA, writeAt, List.set_cons_zero, hl]
  refine hK_ _ ?_
  clear hK_
  simp only [WOps]
  refine hK _ ?_
  clear hK
  obtain ⟨k, hk⟩ : ∃ k : Nat, lv = ((k + 1 : Nat) : Int) := ⟨lv.toNat - 1, by omega⟩
  have hk4 : k + 1 ≤ 4 := by omega
  have hg : ∀ i, i < 2 → CV k 2 2 ((List.drop (i * 4) [AV.int .i64 0, .bool false, .nilsl, .nilsl, .int .i64 0, .bool zb, z, .nilsl]).take 4) := by
    intro i hi
    have h01 : i = 0 ∨ i = 1 := by omega
    rcases h01 with rfl | rfl
    · exact zero_cv k 2 2
    · exact CV.up (l := 0) ⟨zb, z, .nilsl, rfl, hzv, .inl rfl⟩ (by omega)
  have hcv : CV 4 2 2 [.int .i64 lv, .bool false, .nilsl, .lst [.int .i64 0, .bool false, .nilsl, .nilsl, .int .i64 0, .bool zb, z, .nilsl] 2 (some 2)] := by
    rw [hk]
    exact CV.up (l := k + 1) (.inr ⟨false, .nilsl, _, 2, _, rfl, .inl rfl, rfl, by decide, Nat.le_refl _, hg⟩) hk4
  refine W.ret ⟨.inr rfl, .agg [.int .i64 lv, .bool false, .nilsl, .sl 1 0 2 4 (some 2)], ?_, _, [1], ?_, _, rfl, hcv⟩
  · simp (config := { decide := true }) only [List.getElem?_cons_zero, if_true, getD_self, getD_ne, size29, agg29, loadA, readAt, List.drop_zero, List.take_succ_cons, List.take_zero, List.length_cons, List.length_nil, Nat.zero_add, Nat.reduceAdd, Nat.reduceLeDiff, resultsA, Tryz.results27, resultsL, hl]
  · have hv := view_slflat2 (H := [.cells [.int .i64 lv, .bool false, .nilsl, .sl 1 0 2 4 (some 2)], .cells [.int .i64 0, .bool false, .nilsl, .nilsl, .int .i64 0, .bool zb, z, .nilsl]]) (n := 37) (id := 1) (off := 0) (len := 2) (sz := 4) (cap := some 2) rfl (by simp) (CV.flats (len := 2) rfl hg)
    show (match viewL (view _ 39) [AV.int .i64 lv, .bool false, .nilsl, .sl 1 0 2 4 (some 2)] with | some (xs, is) => some (AV.agg xs, is) | none => none) = _
    simp only [viewL, hv]
    rfl

end Go.AX

/- AX, part 45: polynomials: canonical. -/
set_option linter.unusedVariables false
set_option linter.unusedSimpArgs false
set_option maxRecDepth 4000
namespace Go.AX
open Go Go.RowKit Go.Proofs

/-- An operation whose guard was itself passed over. -/
theorem WOps.noU {E : Env} {ops os : List Oper} {o : Oper} {Q : St → Prop} {s : St} {j d : Nat} {want : Bool} (hg : o.guard = some (j, want)) (hd : (ops[j]?).bind (·.dst) = some d) (hb : s.T.getD d .undef = .undef)
    (h : WOps E ops os Q ⟨put s.T o.dst .undef, s.H⟩) : WOps E ops (o :: os) Q s := by
  simp only [WOps]
  have hw : ¬ wantedA ops s.T o = true := by
    unfold wantedA
    rw [hg]
    simp only [hd]
    rw [List.getD] at hb
    cases hx : s.T[d]? with
    | none => simp
    | some v =>
      rw [hx] at hb
      simp at hb
      subst hb
      simp [AV.undef]
  rw [if_neg hw]
  exact h

theorem RV.pv {d L n : Nat} {p : List AV} (h : RV d L n p) : PV n p := by
  cases d with
  | zero => exact h.elim
  | succ d =>
    obtain ⟨lv, ng, a, b, h1, h2, h3⟩ := h
    refine ⟨lv, ng, a, b, h1, h2, ?_⟩
    rcases h3 with rfl | ⟨cells, len, cap, rfl, _⟩ <;> rfl

theorem CV.of_rv : ∀ {l L n d L' n' : Nat} {p : List AV}, CV l L n p → RV d L' n' p → CV l L' n' p
  | 0, L, n, 0, L', n', p, _, h => h.elim
  | 0, L, n, d + 1, L', n', p, ⟨ng, a, b, h1, h2, h3⟩, ⟨lv, ng', a', b', e, e2, _⟩ => by
    rw [h1] at e
    simp at e
    obtain ⟨_, _, rfl, _⟩ := e
    exact ⟨ng, a, b, h1, e2, h3⟩
  | l + 1, L, n, d, L', n', p, .inl h, hr => .inl (CV.of_rv h hr)
  | l + 1, L, n, 0, L', n', p, .inr _, hr => hr.elim
  | l + 1, L, n, d + 1, L', n', p, .inr ⟨ng, a, cells, len, cap, h1, h2, h3, h4, h5, h6⟩, ⟨lv, ng', a', b', e, e2, e3⟩ => by
    have e' := e
    rw [h1] at e'
    simp at e'
    obtain ⟨_, _, rfl, rfl⟩ := e'
    rcases e3 with e3 | ⟨cells', len', cap', f1, f2, f3, f4⟩
    · simp at e3
    · simp at f1
      obtain ⟨rfl, rfl, rfl⟩ := f1
      exact .inr ⟨ng, a, cells, len, cap, h1, e2, h3, h4, f3, fun i hi => CV.of_rv (h6 i hi) (f4 i hi)⟩

end Go.AX
