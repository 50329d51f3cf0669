/- AX, part 31: integers. -/
import Derived.Test.YtkkdpjmefjampaaGreatB1
set_option linter.unusedVariables false
set_option linter.unusedSimpArgs false
set_option maxRecDepth 4000
namespace Go.AX
open Go Go.RowKit Go.Proofs

theorem size4 : sizeT Tryz.prog 4 = some 1 := by kernel_rfl
theorem size24 : sizeT Tryz.prog 24 = some 1 := by kernel_rfl
theorem size3 : sizeT Tryz.prog 3 = some 1 := by kernel_rfl
theorem size27 : sizeT Tryz.prog 27 = some 1 := by kernel_rfl
theorem agg4 : isAggT Tryz.prog 4 = some false := by kernel_rfl
theorem agg24 : isAggT Tryz.prog 24 = some false := by kernel_rfl
theorem agg3 : isAggT Tryz.prog 3 = some false := by kernel_rfl
theorem agg27 : isAggT Tryz.prog 27 = some false := by kernel_rfl
theorem zero26 : zeroT Tryz.prog 26 = some (.agg [.bool false, .nilsl]) := by kernel_rfl
theorem zero29 : zeroT Tryz.prog 29 = some (.agg [.int .i64 0, .bool false, .nilsl, .nilsl]) := by kernel_rfl
theorem F26_0 : fieldA Tryz.prog 26 0 = some { name := "Neg", type := 4, offset := 0, embedded := false, tag := "", pkgPath := "", byteOffset := 0 } := by simp [fieldA, Tryz.underlying26]
theorem F26_1 : fieldA Tryz.prog 26 1 = some { name := "Abs", type := 24, offset := 1, embedded := false, tag := "", pkgPath := "", byteOffset := 8 } := by simp [fieldA, Tryz.underlying26]
theorem F29_0 : fieldA Tryz.prog 29 0 = some { name := "Level", type := 3, offset := 0, embedded := false, tag := "", pkgPath := "", byteOffset := 0 } := by simp [fieldA, Tryz.underlying29]
theorem F29_1 : fieldA Tryz.prog 29 1 = some { name := "Const", type := 26, offset := 1, embedded := false, tag := "", pkgPath := "", byteOffset := 8 } := by simp [fieldA, Tryz.underlying29]
theorem F29_2 : fieldA Tryz.prog 29 2 = some { name := "Coefs", type := 27, offset := 3, embedded := false, tag := "", pkgPath := "", byteOffset := 40 } := by simp [fieldA, Tryz.underlying29]
theorem PL26 : List.mapM (fun f => Option.map (fun i => (f.offset, i.size)) (Tryz.prog.info? f.type)) [({ name := "Neg", type := 4, offset := 0, embedded := false, tag := "", pkgPath := "", byteOffset := 0 } : Field), { name := "Abs", type := 24, offset := 1, embedded := false, tag := "", pkgPath := "", byteOffset := 8 }] = some [(0, 1), (1, 1)] := by kernel_rfl
theorem PL29 : List.mapM (fun f => Option.map (fun i => (f.offset, i.size)) (Tryz.prog.info? f.type)) [({ name := "Level", type := 3, offset := 0, embedded := false, tag := "", pkgPath := "", byteOffset := 0 } : Field), { name := "Const", type := 26, offset := 1, embedded := false, tag := "", pkgPath := "", byteOffset := 8 }, { name := "Coefs", type := 27, offset := 3, embedded := false, tag := "", pkgPath := "", byteOffset := 40 }] = some [(0, 1), (1, 2), (3, 1)] := by kernel_rfl

theorem cells_agg (cs : List AV) : AV.cells (.agg cs) = cs := rfl
theorem cells_bool (b : Bool) : AV.cells (.bool b) = [.bool b] := rfl
theorem cells_int (k : IntKind) (b : Int) : AV.cells (.int k b) = [.int k b] := rfl
theorem cells_nilsl : AV.cells .nilsl = [.nilsl] := rfl
theorem cells_lst (a : List AV) (b : Nat) (c : Option Nat) : AV.cells (.lst a b c) = [.lst a b c] := rfl
theorem cells_ptr (a b : Nat) : AV.cells (.ptr a b) = [.ptr a b] := rfl
theorem cells_sl (a b c d : Nat) (e : Option Nat) : AV.cells (.sl a b c d e) = [.sl a b c d e] := rfl
theorem one_bool (b : Bool) : oneCell (.bool b) = true := rfl
theorem one_int (k : IntKind) (b : Int) : oneCell (.int k b) = true := rfl
theorem one_nilsl : oneCell .nilsl = true := rfl
theorem one_lst (a : List AV) (b : Nat) (c : Option Nat) : oneCell (.lst a b c) = true := rfl
theorem one_ptr (a b : Nat) : oneCell (.ptr a b) = true := rfl
theorem one_sl (a b c d : Nat) (e : Option Nat) : oneCell (.sl a b c d e) = true := rfl
theorem cells_nv {k : Nat} {a : AV} (h : NV k a) : AV.cells a = [a] := by
  rcases h with rfl | ⟨cells, len, cap, rfl, _⟩ <;> rfl

theorem viewL_words1 (H : Heap) (k : IntKind) (n : Int) : viewL (view H depthA) [.int k n] = some ([.int k n], []) := rfl

theorem one_nv {k : Nat} {a : AV} (h : NV k a) : oneCell a = true := by
  rcases h with rfl | ⟨cells, len, cap, rfl, _⟩ <;> rfl

theorem view_iv {k : Nat} {x : AV} (h : NV k x) (b : Bool) (H : Heap) : view H depthA (.agg [.bool b, x]) = some (.agg [.bool b, x], []) := by
  rcases h with rfl | ⟨cells, len, cap, rfl, _⟩ <;> rfl

theorem made_con (b : Bool) (x : AV) (k : Nat) (hx : NV k x) : Con 115 [.bool b, x] (fun r => ∃ b', r = .agg [.bool b', x]) := by
  refine con_of Tryz.func115 rfl ?_
  show W ET _ _ ⟨[.bool b, x] ++ List.replicate 11 .undef, []⟩
  generalize hT : [.bool b, x] ++ List.replicate 11 AV.undef = T
  have hl : T.length = 13 := by subst hT; rfl
  have h0 : T.getD 0 .undef = .bool b := by subst hT; rfl
  have h1 : T.getD 1 .undef = x := by subst hT; rfl
  clear hT
  have ho := one_nv hx
  have hcl := cells_nv hx
  obtain ⟨len, hlen, fx⟩ := nv_len hx
  have hfin : ∀ (T1 : List AV) (b' : Bool), T1.length = 13 → T1.getD 4 .undef = .ptr 0 0 → ∃ r, resultsA Tryz.prog Tryz.f115 ⟨T1, [.cells [.bool b', x]]⟩ = some r ∧ ∃ r' ids, view [.cells [.bool b', x]] depthA r = some (r', ids) ∧ ∃ b', r' = .agg [.bool b', x] := by
    intro T1 b' hl' h4
    refine ⟨.agg [.bool b', x], ?_, _, [], view_iv hx b' _, b', rfl⟩
    simp (config := { decide := true }) only [List.getElem?_cons_zero, if_true, size26, agg26, loadA, readAt, List.drop_zero, List.take_succ_cons, List.take_zero, List.length_cons, List.length_nil, Nat.zero_add, Nat.reduceAdd, Nat.reduceLeDiff, resultsA, Tryz.results115, resultsL, h4]
  refine W.seqk fun K hK => W.region ?_
  refine WOps.cons rfl fun K_ hK_ => ?_
  simp (config := { decide := true }) only [WOne, calleeOf, axOp, okk_some, put, if_true, et_P, List.length_nil, newA, cells_agg, zero26, List.nil_append]
  refine hK_ _ ?_
  clear hK_
  simp only [WOps]
  refine hK _ ?_
  clear hK
  refine W.seqk fun K hK => W.region ?_
  cases b with
  | true =>
    refine WOps.cons rfl fun K_ hK_ => ?_
    simp (config := { decide := true }) only [WOne, calleeOf, axOp, ev, keep, okk_some, put, getD_ne, h0]
    refine hK_ _ ?_
    clear hK_
    refine WOps.cons rfl fun K_ hK_ => ?_
    simp (config := { decide := true }) only [WOne, calleeOf, axOp, ev, keep, okk_some, put, getD_self, List.length_set, hl]
    refine hK_ _ ?_
    clear hK_
    refine WOps.yes rfl rfl (by simp (config := { decide := true }) only [getD_self, List.length_set, hl]) fun K_ hK_ => ?_
    simp (config := { decide := true }) only [WOne, calleeOf, axOp, ev, keep, okk_some, put, getD_ne, h1]
    refine hK_ _ ?_
    clear hK_
    refine WOps.yes rfl rfl (by simp (config := { decide := true }) only [getD_self, getD_ne, List.length_set, hl]) fun K_ hK_ => ?_
    simp (config := { decide := true }) only [WOne, calleeOf, axOp, ev, evs, okk_some, put, getD_self, List.length_set, et_P, hl, fun H => (fx H).1]
    refine hK_ _ ?_
    clear hK_
    refine WOps.yes rfl rfl (by simp (config := { decide := true }) only [getD_self, getD_ne, List.length_set, hl]) fun K_ hK_ => ?_
    simp (config := { decide := true }) only [WOne, calleeOf, axOp, ev, keep, okk_some, put, if_true, ofValue, getD_self, List.length_set, binA, intOp, hl]
    refine hK_ _ ?_
    clear hK_
    refine WOps.cons rfl fun K_ hK_ => ?_
    simp (config := { decide := true }) only [WOne, calleeOf, axOp, ev, keep, okk_some, put, getD_self, getD_ne, List.length_set, hl]
    refine hK_ _ ?_
    clear hK_
    refine WOps.cons rfl fun K_ hK_ => ?_
    simp (config := { decide := true }) only [WOne, calleeOf, axOp, ev, keep, okk_some, put, getD_ne, h1]
    refine hK_ _ ?_
    clear hK_
    refine WOps.cons rfl fun K_ hK_ => ?_
    simp (config := { decide := true }) only [WOne, List.getElem?_cons_zero, List.getElem?_cons_succ, calleeOf, axOp, ev, keep, okk_some, put, if_true, getD_self, getD_ne, List.length_set, Option.map_some, et_P, List.drop_succ_cons, List.drop_zero, List.take_succ_cons, List.take_zero, List.length_cons, List.length_nil, Nat.zero_add, Nat.reduceAdd, Nat.reduceLeDiff, cells_agg, cells_bool, zero26, List.cons_append, List.nil_append, List.append_nil, writeAt, evParts, fillA, Tryz.underlying26, PL26, hl, hcl]
    refine hK_ _ ?_
    clear hK_
    refine WOps.cons rfl fun K_ hK_ => ?_
    simp (config := { decide := true }) only [WOne, List.getElem?_cons_zero, calleeOf, axOp, ev, okk_some, put, if_true, getD_self, getD_ne, List.length_set, size26, et_P, decide_true, List.drop_succ_cons, List.drop_zero, List.take_zero, List.length_cons, List.length_nil, Nat.zero_add, Nat.reduceAdd, Nat.reduceLeDiff, cells_agg, one_bool, List.all_cons, List.all_nil, Bool.and_self, List.nil_append, List.append_nil, storeA, writeAt, List.set_cons_zero, hl, ho]
    refine hK_ _ ?_
    clear hK_
    simp only [WOps]
    refine hK _ (W.ret ⟨.inr rfl, hfin _ _ ?_ ?_⟩) <;> simp (config := { decide := true }) only [getD_self, getD_ne, List.length_set, hl]
  | false =>
    refine WOps.cons rfl fun K_ hK_ => ?_
    simp (config := { decide := true }) only [WOne, calleeOf, axOp, ev, keep, okk_some, put, getD_ne, h0]
    refine hK_ _ ?_
    clear hK_
    refine WOps.cons rfl fun K_ hK_ => ?_
    simp (config := { decide := true }) only [WOne, calleeOf, axOp, ev, keep, okk_some, put, getD_self, List.length_set, hl]
    refine hK_ _ ?_
    clear hK_
    refine WOps.no rfl rfl (by simp (config := { decide := true }) only [getD_self, List.length_set, Bool.not_true, hl]) ?_
    refine WOps.no rfl rfl (by simp (config := { decide := true }) only [put, getD_self, getD_ne, List.length_set, Bool.not_true, hl]) ?_
    refine WOps.no rfl rfl (by simp (config := { decide := true }) only [put, getD_self, getD_ne, List.length_set, Bool.not_true, hl]) ?_
    refine WOps.cons rfl fun K_ hK_ => ?_
    simp (config := { decide := true }) only [WOne, calleeOf, axOp, ev, keep, okk_some, put, ofValue, getD_self, getD_ne, List.length_set, hl]
    refine hK_ _ ?_
    clear hK_
    refine WOps.cons rfl fun K_ hK_ => ?_
    simp (config := { decide := true }) only [WOne, calleeOf, axOp, ev, keep, okk_some, put, getD_ne, h1]
    refine hK_ _ ?_
    clear hK_
    refine WOps.cons rfl fun K_ hK_ => ?_
    simp (config := { decide := true }) only [WOne, List.getElem?_cons_zero, List.getElem?_cons_succ, calleeOf, axOp, ev, keep, okk_some, put, if_true, getD_self, getD_ne, List.length_set, Option.map_some, et_P, List.drop_succ_cons, List.drop_zero, List.take_succ_cons, List.take_zero, List.length_cons, List.length_nil, Nat.zero_add, Nat.reduceAdd, Nat.reduceLeDiff, cells_agg, cells_bool, zero26, List.cons_append, List.nil_append, List.append_nil, writeAt, evParts, fillA, Tryz.underlying26, PL26, hl, hcl]
    refine hK_ _ ?_
    clear hK_
    refine WOps.cons rfl fun K_ hK_ => ?_
    simp (config := { decide := true }) only [WOne, List.getElem?_cons_zero, calleeOf, axOp, ev, okk_some, put, if_true, getD_self, getD_ne, List.length_set, size26, et_P, decide_true, List.drop_succ_cons, List.drop_zero, List.take_zero, List.length_cons, List.length_nil, Nat.zero_add, Nat.reduceAdd, Nat.reduceLeDiff, cells_agg, one_bool, List.all_cons, List.all_nil, Bool.and_self, List.nil_append, List.append_nil, storeA, writeAt, List.set_cons_zero, hl, ho]
    refine hK_ _ ?_
    clear hK_
    simp only [WOps]
    refine hK _ (W.ret ⟨.inr rfl, hfin _ _ ?_ ?_⟩) <;> simp (config := { decide := true }) only [getD_self, getD_ne, List.length_set, hl]

theorem Con.imp {f : FuncId} {args : List AV} {P Q : AV → Prop} (h : Con f args P) (hq : ∀ r, P r → Q r) : Con f args Q := ⟨h.1, let ⟨r, h1, h2⟩ := h.2; ⟨r, h1, hq r h2⟩⟩

theorem viewL_bnv {k : Nat} {x : AV} (h : NV k x) (b : Bool) (H : Heap) : viewL (view H depthA) [.bool b, x] = some ([.bool b, x], []) := by
  rcases h with rfl | ⟨cells, len, cap, rfl, _⟩ <;> rfl

theorem made_spec (b : Bool) (x : AV) (k : Nat) (hx : NV k x) : Con 115 [.bool b, x] (Spec 115 [.bool b, x]) :=
  (made_con b x k hx).imp fun r ⟨b', hr⟩ k' hk' => ⟨b', x, hr, hk'⟩

theorem normal_spec (a : AV) (k : Nat) (ha : NV k a) (hk : k ≤ 2 ^ 40) : Con 207 [a] (Spec 207 [a]) := normal_con a k ha hk

theorem from_con (b : Bool) (x : AV) (k : Nat) (hx : NV k x) (hk : k ≤ 2 ^ 40) : Con 149 [.bool b, x] (fun r => IV k r) := by
  refine con_of Tryz.func149 rfl ?_
  show W ET _ _ ⟨[.bool b, x] ++ List.replicate 7 .undef, []⟩
  generalize hT : [.bool b, x] ++ List.replicate 7 AV.undef = T
  have hl : T.length = 9 := by subst hT; rfl
  have h0 : T.getD 0 .undef = .bool b := by subst hT; rfl
  have h1 : T.getD 1 .undef = x := by subst hT; rfl
  clear hT
  refine W.seqk fun K hK => W.region ?_
  refine WOps.cons rfl fun K_ hK_ => ?_
  simp (config := { decide := true }) only [WOne, calleeOf, axOp, okk_some, put, if_true, et_P, List.length_nil, newA, cells_agg, zero26, List.nil_append]
  refine hK_ _ ?_
  clear hK_
  simp only [WOps]
  refine hK _ ?_
  clear hK
  refine W.seqk fun K hK => W.region ?_
  refine WOps.cons rfl fun K_ hK_ => ?_
  simp (config := { decide := true }) only [WOne, calleeOf, axOp, ev, keep, okk_some, put, getD_ne, h0]
  refine hK_ _ ?_
  clear hK_
  refine WOps.cons rfl fun K_ hK_ => ?_
  simp (config := { decide := true }) only [WOne, calleeOf, axOp, ev, keep, okk_some, put, getD_ne, h1]
  refine hK_ _ ?_
  clear hK_
  refine WOps.cons rfl fun K_ hK_ => ?_
  simp (config := { decide := true }) only [WOne, calleeOf, ev, evs, put, getD_self, List.length_set, hl]
  refine call_known (by decide) (viewL_nv hx) (normal_spec x k hx hk) fun y hy => ?_
  simp only [AX.kill]
  refine hK_ _ ?_
  clear hK_
  have hy' : NV k y := hy k hx
  refine WOps.cons rfl fun K_ hK_ => ?_
  simp (config := { decide := true }) only [WOne, calleeOf, ev, evs, put, getD_self, getD_ne, List.length_set, hl]
  refine call_known (by decide) (viewL_bnv hy' b _) (made_spec b y k hy') fun z hz => ?_
  simp only [AX.kill]
  refine hK_ _ ?_
  clear hK_
  obtain ⟨b', y', rfl, hy2⟩ := hz k hy'
  have hcl := cells_nv hy2
  have ho := one_nv hy2
  refine WOps.cons rfl fun K_ hK_ => ?_
  simp (config := { decide := true }) only [WOne, List.getElem?_cons_zero, calleeOf, axOp, ev, okk_some, put, if_true, getD_self, getD_ne, List.length_set, size26, et_P, decide_true, List.drop_succ_cons, List.drop_zero, List.take_zero, List.length_cons, List.length_nil, Nat.zero_add, Nat.reduceAdd, Nat.reduceLeDiff, cells_agg, one_bool, List.all_cons, List.all_nil, Bool.and_self, List.nil_append, List.append_nil, storeA, writeAt, List.set_cons_zero, hl, ho]
  refine hK_ _ ?_
  clear hK_
  simp only [WOps]
  refine hK _ ?_
  clear hK
  refine W.ret ⟨.inr rfl, .agg [.bool b', y'], ?_, _, [], view_iv hy2 b' _, b', y', rfl, hy2⟩
  simp (config := { decide := true }) only [List.getElem?_cons_zero, if_true, getD_self, getD_ne, size26, agg26, loadA, readAt, List.drop_zero, List.take_succ_cons, List.take_zero, List.length_cons, List.length_nil, Nat.zero_add, Nat.reduceAdd, Nat.reduceLeDiff, resultsA, Tryz.results149, resultsL, hl]

theorem iNormal_con (b : Bool) (x : AV) (k : Nat) (hx : NV k x) (hk : k ≤ 2 ^ 40) : Con 87 [.agg [.bool b, x]] (fun r => IV k r) := by
  refine con_of Tryz.func87 rfl ?_
  show W ET _ _ ⟨[.agg [.bool b, x]] ++ List.replicate 7 .undef, []⟩
  generalize hT : [.agg [.bool b, x]] ++ List.replicate 7 AV.undef = T
  have hl : T.length = 8 := by subst hT; rfl
  have h0 : T.getD 0 .undef = .agg [.bool b, x] := by subst hT; rfl
  clear hT
  have hcx := cells_nv hx
  have hox := one_nv hx
  refine W.seqk fun K hK => W.region ?_
  refine WOps.cons rfl fun K_ hK_ => ?_
  simp (config := { decide := true }) only [WOne, calleeOf, axOp, ev, okk_some, put, if_true, List.length_nil, newA, cells_agg, one_bool, List.all_cons, List.all_nil, Bool.and_self, List.nil_append, h0, hox]
  refine hK_ _ ?_
  clear hK_
  refine WOps.cons rfl fun K_ hK_ => ?_
  simp (config := { decide := true }) only [WOne, calleeOf, axOp, okk_some, put, if_true, et_P, List.length_cons, List.length_nil, Nat.zero_add, newA, cells_agg, zero26, List.cons_append, List.nil_append]
  refine hK_ _ ?_
  clear hK_
  simp only [WOps]
  refine hK _ ?_
  clear hK
  refine W.seqk fun K hK => W.region ?_
  refine WOps.cons rfl fun K_ hK_ => ?_
  simp (config := { decide := true }) only [WOne, calleeOf, axOp, ev, keep, okk_some, put, getD_self, getD_ne, et_P, addA, Nat.add_zero, size4, F26_0, hl]
  refine hK_ _ ?_
  clear hK_
  refine WOps.cons rfl fun K_ hK_ => ?_
  simp (config := { decide := true }) only [WOne, List.getElem?_cons_zero, calleeOf, axOp, ev, keep, okk_some, put, getD_self, List.length_set, et_P, loadA, readAt, agg4, hl]
  refine hK_ _ ?_
  clear hK_
  refine WOps.cons rfl fun K_ hK_ => ?_
  simp (config := { decide := true }) only [WOne, calleeOf, axOp, ev, keep, okk_some, put, getD_self, getD_ne, et_P, addA, Nat.zero_add, size24, F26_1, hl]
  refine hK_ _ ?_
  clear hK_
  refine WOps.cons rfl fun K_ hK_ => ?_
  simp (config := { decide := true }) only [WOne, List.getElem?_cons_zero, List.getElem?_cons_succ, calleeOf, axOp, ev, keep, okk_some, put, getD_self, List.length_set, et_P, loadA, readAt, agg24, hl]
  refine hK_ _ ?_
  clear hK_
  have hcon : Con 149 [.bool b, x] (Spec 149 [.bool b, x]) := by
    obtain ⟨k0, hk0, hk1, hmin⟩ : ∃ k0, NV k0 x ∧ k0 ≤ 2 ^ 40 ∧ ∀ k', NV k' x → k0 ≤ k' := by
      rcases hx with rfl | ⟨cells, len, cap, rfl, h2, h3, h4⟩
      · exact ⟨0, .inl rfl, by omega, fun _ _ => Nat.zero_le _⟩
      · exact ⟨len, .inr ⟨cells, len, cap, rfl, h2, Nat.le_refl _, h4⟩, by omega, fun k' h => (nv_cells h).2.1⟩
    exact (from_con b x k0 hk0 hk1).imp fun r ⟨b', y, hr, hy⟩ k' hk' => ⟨b', y, hr, hy.mono (hmin k' hk')⟩
  refine WOps.cons rfl fun K_ hK_ => ?_
  simp (config := { decide := true }) only [WOne, calleeOf, ev, evs, put, getD_self, getD_ne, List.length_set, hl]
  refine call_known (by decide) (viewL_bnv hx b _) (hcon) fun z hz => ?_
  simp only [AX.kill]
  refine hK_ _ ?_
  clear hK_
  obtain ⟨b', y', rfl, hy2⟩ := hz k hx
  have hcl := cells_nv hy2
  have ho := one_nv hy2
  refine WOps.cons rfl fun K_ hK_ => ?_
  simp (config := { decide := true }) only [WOne, List.getElem?_cons_zero, List.getElem?_cons_succ, calleeOf, axOp, ev, okk_some, put, if_true, getD_self, getD_ne, List.length_set, size26, et_P, decide_true, List.drop_succ_cons, List.drop_zero, List.take_zero, List.length_cons, List.length_nil, Nat.zero_add, Nat.reduceAdd, Nat.reduceLeDiff, cells_agg, one_bool, List.all_cons, List.all_nil, Bool.and_self, List.nil_append, List.append_nil, storeA, writeAt, List.set_cons_zero, List.set_cons_succ, hl, ho]
  refine hK_ _ ?_
  clear hK_
  simp only [WOps]
  refine hK _ ?_
  clear hK
  refine W.ret ⟨.inr rfl, .agg [.bool b', y'], ?_, _, [], view_iv hy2 b' _, b', y', rfl, hy2⟩
  simp (config := { decide := true }) only [List.getElem?_cons_zero, List.getElem?_cons_succ, if_true, getD_self, getD_ne, List.length_set, size26, agg26, loadA, readAt, List.drop_zero, List.take_succ_cons, List.take_zero, List.length_cons, List.length_nil, Nat.zero_add, Nat.reduceAdd, Nat.reduceLeDiff, resultsA, Tryz.results87, resultsL, hl]

theorem sign_con (b : Bool) (x : AV) (k : Nat) (hx : NV k x) (hk : k ≤ 2 ^ 40) : Con 82 [.agg [.bool b, x]] (Spec 82 [.agg [.bool b, x]]) := by
  refine con_of Tryz.func82 rfl ?_
  show W ET _ _ ⟨[.agg [.bool b, x]] ++ List.replicate 9 .undef, []⟩
  generalize hT : [.agg [.bool b, x]] ++ List.replicate 9 AV.undef = T
  have hl : T.length = 10 := by subst hT; rfl
  have h0 : T.getD 0 .undef = .agg [.bool b, x] := by subst hT; rfl
  clear hT
  have hcx := cells_nv hx
  have hox := one_nv hx
  refine W.seqk fun K hK => W.region ?_
  refine WOps.cons rfl fun K_ hK_ => ?_
  simp (config := { decide := true }) only [WOne, calleeOf, axOp, ev, okk_some, put, if_true, List.length_nil, newA, cells_agg, one_bool, List.all_cons, List.all_nil, Bool.and_self, List.nil_append, h0, hox]
  refine hK_ _ ?_
  clear hK_
  refine WOps.cons rfl fun K_ hK_ => ?_
  simp (config := { decide := true }) only [WOne, calleeOf, axOp, ev, keep, okk_some, put, ofValue]
  refine hK_ _ ?_
  clear hK_
  simp only [WOps]
  refine hK _ ?_
  clear hK
  refine W.seqk fun Ks hKs => W.block ?_
  refine W.seqk fun K hK => W.region ?_
  refine WOps.cons rfl fun K_ hK_ => ?_
  simp (config := { decide := true }) only [WOne, calleeOf, axOp, ev, keep, okk_some, put, getD_self, getD_ne, et_P, addA, Nat.zero_add, size24, F26_1, hl]
  refine hK_ _ ?_
  clear hK_
  refine WOps.cons rfl fun K_ hK_ => ?_
  simp (config := { decide := true }) only [WOne, List.getElem?_cons_zero, List.getElem?_cons_succ, calleeOf, axOp, ev, keep, okk_some, put, getD_self, List.length_set, et_P, loadA, readAt, agg24, hl]
  refine hK_ _ ?_
  clear hK_
  refine WOps.cons rfl fun K_ hK_ => ?_
  simp (config := { decide := true }) only [WOne, calleeOf, ev, evs, put, getD_self, List.length_set, hl]
  refine call_known (by decide) (viewL_nv hx) (isZero_con x k hx hk) fun z hz => ?_
  simp only [AX.kill]
  refine hK_ _ ?_
  clear hK_
  obtain ⟨zb, rfl⟩ := hz
  refine WOps.cons rfl fun K_ hK_ => ?_
  simp (config := { decide := true }) only [WOne, calleeOf, axOp, ev, keep, okk_some, put, getD_self, List.length_set, hl]
  refine hK_ _ ?_
  clear hK_
  simp only [WOps]
  refine hK _ ?_
  clear hK
  cases zb with
  | true =>
    refine W.cond (b := true) (by simp (config := { decide := true }) only [ev, getD_self, List.length_set, hl]) (fun _ => ?_) (fun h => by simp at h)
    refine W.seqk fun K hK => W.region ?_
    refine WOps.cons rfl fun K_ hK_ => ?_
    simp (config := { decide := true }) only [WOne, calleeOf, axOp, ev, keep, okk_some, put, ofValue]
    refine hK_ _ ?_
    clear hK_
    simp only [WOps]
    refine hK _ ?_
    clear hK
    refine W.ret ⟨.inr rfl, .int .i64 0, ?_, _, [], rfl, _, rfl⟩
    simp (config := { decide := true }) only [getD_self, List.length_set, resultsA, Tryz.results82, resultsL, hl]
  | false =>
    refine W.cond (b := false) (by simp (config := { decide := true }) only [ev, getD_self, List.length_set, hl]) (fun h => by simp at h) (fun _ => ?_)
    refine W.seqk fun K hK => W.region ?_
    refine WOps.cons rfl fun K_ hK_ => ?_
    simp (config := { decide := true }) only [WOne, calleeOf, axOp, ev, keep, okk_some, put, getD_self, getD_ne, et_P, addA, Nat.add_zero, size4, F26_0, hl]
    refine hK_ _ ?_
    clear hK_
    refine WOps.cons rfl fun K_ hK_ => ?_
    simp (config := { decide := true }) only [WOne, List.getElem?_cons_zero, calleeOf, axOp, ev, keep, okk_some, put, getD_self, List.length_set, et_P, loadA, readAt, agg4, hl]
    refine hK_ _ ?_
    clear hK_
    refine WOps.cons rfl fun K_ hK_ => ?_
    simp (config := { decide := true }) only [WOne, calleeOf, axOp, ev, keep, okk_some, put, getD_self, List.length_set, hl]
    refine hK_ _ ?_
    clear hK_
    simp only [WOps]
    refine hK _ ?_
    clear hK
    cases b with
    | true =>
      refine W.cond (b := true) (by simp (config := { decide := true }) only [ev, getD_self, List.length_set, hl]) (fun _ => ?_) (fun h => by simp at h)
      refine W.seqk fun K hK => W.region ?_
      refine WOps.cons rfl fun K_ hK_ => ?_
      simp (config := { decide := true }) only [WOne, calleeOf, axOp, ev, keep, okk_some, put, ofValue]
      refine hK_ _ ?_
      clear hK_
      simp only [WOps]
      refine hK _ ?_
      clear hK
      refine W.ret ⟨.inr rfl, .int .i64 (-1), ?_, _, [], rfl, _, rfl⟩
      simp (config := { decide := true }) only [getD_self, List.length_set, resultsA, Tryz.results82, resultsL, hl]
    | false =>
      refine W.cond (b := false) (by simp (config := { decide := true }) only [ev, getD_self, List.length_set, hl]) (fun h => by simp at h) (fun _ => W.skip ?_)
      simp only [Th, outOf]
      refine hKs _ ?_
      refine W.seqk fun K hK => W.region ?_
      refine WOps.cons rfl fun K_ hK_ => ?_
      simp (config := { decide := true }) only [WOne, calleeOf, axOp, ev, keep, okk_some, put, ofValue]
      refine hK_ _ ?_
      clear hK_
      simp only [WOps]
      refine hK _ ?_
      clear hK
      refine W.ret ⟨.inr rfl, .int .i64 1, ?_, _, [], rfl, _, rfl⟩
      simp (config := { decide := true }) only [getD_self, List.length_set, resultsA, Tryz.results82, resultsL, hl]

theorem iOf_con (n : Int) : Con 58 [.int .i64 n] (Spec 58 [.int .i64 n]) := by
  refine con_of Tryz.func58 rfl ?_
  show W ET _ _ ⟨[.int .i64 n] ++ List.replicate 13 .undef, []⟩
  generalize hT : [.int .i64 n] ++ List.replicate 13 AV.undef = T
  have hl : T.length = 14 := by subst hT; rfl
  have h0 : T.getD 0 .undef = .int .i64 n := by subst hT; rfl
  clear hT
  have cv : convA Tryz.prog 2 161 (.int .i64 n) = some (.int .u64 (IntKind.u64.wrap n)) := by simp [convA, Tryz.underlying2, Tryz.underlying161]
  refine W.seqk fun K hK => W.region ?_
  refine WOps.cons rfl fun K_ hK_ => ?_
  simp (config := { decide := true }) only [WOne, calleeOf, axOp, okk_some, put, if_true, et_P, List.length_nil, newA, cells_agg, zero26, List.nil_append]
  refine hK_ _ ?_
  clear hK_
  simp only [WOps]
  refine hK _ ?_
  clear hK
  refine W.seqk fun Ks hKs => ?_
  refine W.seqk fun K hK => W.region ?_
  refine WOps.cons rfl fun K_ hK_ => ?_
  simp (config := { decide := true }) only [WOne, calleeOf, axOp, ev, keep, okk_some, put, getD_ne, h0]
  refine hK_ _ ?_
  clear hK_
  refine WOps.cons rfl fun K_ hK_ => ?_
  simp (config := { decide := true }) only [WOne, calleeOf, axOp, ev, keep, okk_some, put, if_true, ofValue, getD_self, List.length_set, binA, intOp, hl]
  refine hK_ _ ?_
  clear hK_
  simp only [WOps]
  refine hK _ ?_
  clear hK
  by_cases hn : n < 0
  · refine W.cond (b := true) (by simp (config := { decide := true }) only [ev, getD_self, List.length_set, decide_true, hl, hn]) (fun _ => ?_) (fun h => by simp at h)
    refine W.seqk fun K hK => W.region ?_
    refine WOps.cons rfl fun K_ hK_ => ?_
    simp (config := { decide := true }) only [WOne, calleeOf, axOp, ev, keep, okk_some, put, getD_ne, h0]
    refine hK_ _ ?_
    clear hK_
    refine WOps.cons rfl fun K_ hK_ => ?_
    simp (config := { decide := true }) only [WOne, calleeOf, axOp, ev, keep, okk_some, put, getD_self, List.length_set, et_P, hl, cv]
    refine hK_ _ ?_
    clear hK_
    refine WOps.cons rfl fun K_ hK_ => ?_
    simp (config := { decide := true }) only [WOne, calleeOf, axOp, ev, keep, okk_some, put, getD_self, List.length_set, hl, unA]
    refine hK_ _ ?_
    clear hK_
    refine WOps.cons rfl fun K_ hK_ => ?_
    simp (config := { decide := true }) only [WOne, calleeOf, ev, evs, put, getD_self, List.length_set, hl]
    refine call_known (by decide) (viewL_words1 _ _ _) (of_con _) fun y hy => ?_
    simp only [AX.kill]
    refine hK_ _ ?_
    clear hK_
    have hy' : NV 2 y := hy
    refine WOps.cons rfl fun K_ hK_ => ?_
    simp (config := { decide := true }) only [WOne, calleeOf, ev, evs, put, ofValue, getD_self, List.length_set, hl]
    refine call_known (by decide) (viewL_bnv hy' true _) (made_spec true y 2 hy') fun z hz => ?_
    simp only [AX.kill]
    refine hK_ _ ?_
    clear hK_
    obtain ⟨b', y', rfl, hy2⟩ := hz 2 hy'
    have hcl := cells_nv hy2
    have ho := one_nv hy2
    refine WOps.cons rfl fun K_ hK_ => ?_
    simp (config := { decide := true }) only [WOne, List.getElem?_cons_zero, calleeOf, axOp, ev, okk_some, put, if_true, getD_self, getD_ne, List.length_set, size26, et_P, decide_true, List.drop_succ_cons, List.drop_zero, List.take_zero, List.length_cons, List.length_nil, Nat.zero_add, Nat.reduceAdd, Nat.reduceLeDiff, cells_agg, one_bool, List.all_cons, List.all_nil, Bool.and_self, List.nil_append, List.append_nil, storeA, writeAt, List.set_cons_zero, hl, ho]
    refine hK_ _ ?_
    clear hK_
    simp only [WOps]
    refine hK _ ?_
    clear hK
    refine W.ret ⟨.inr rfl, .agg [.bool b', y'], ?_, _, [], view_iv hy2 b' _, b', y', rfl, hy2⟩
    simp (config := { decide := true }) only [List.getElem?_cons_zero, if_true, getD_self, getD_ne, size26, agg26, loadA, readAt, List.drop_zero, List.take_succ_cons, List.take_zero, List.length_cons, List.length_nil, Nat.zero_add, Nat.reduceAdd, Nat.reduceLeDiff, resultsA, Tryz.results58, resultsL, hl]
  · refine W.cond (b := false) (by simp (config := { decide := true }) only [ev, getD_self, List.length_set, decide_false, hl, hn]) (fun h => by simp at h) (fun _ => W.skip ?_)
    simp only [Th]
    refine hKs _ ?_
    refine W.seqk fun K hK => W.region ?_
    refine WOps.cons rfl fun K_ hK_ => ?_
    simp (config := { decide := true }) only [WOne, calleeOf, axOp, ev, keep, okk_some, put, getD_ne, h0]
    refine hK_ _ ?_
    clear hK_
    refine WOps.cons rfl fun K_ hK_ => ?_
    simp (config := { decide := true }) only [WOne, calleeOf, axOp, ev, keep, okk_some, put, getD_self, List.length_set, et_P, hl, cv]
    refine hK_ _ ?_
    clear hK_
    refine WOps.cons rfl fun K_ hK_ => ?_
    simp (config := { decide := true }) only [WOne, calleeOf, ev, evs, put, getD_self, List.length_set, hl]
    refine call_known (by decide) (viewL_words1 _ _ _) (of_con _) fun y hy => ?_
    simp only [AX.kill]
    refine hK_ _ ?_
    clear hK_
    have hy' : NV 2 y := hy
    refine WOps.cons rfl fun K_ hK_ => ?_
    simp (config := { decide := true }) only [WOne, calleeOf, ev, evs, put, ofValue, getD_self, List.length_set, hl]
    refine call_known (by decide) (viewL_bnv hy' false _) (made_spec false y 2 hy') fun z hz => ?_
    simp only [AX.kill]
    refine hK_ _ ?_
    clear hK_
    obtain ⟨b', y', rfl, hy2⟩ := hz 2 hy'
    have hcl := cells_nv hy2
    have ho := one_nv hy2
    refine WOps.cons rfl fun K_ hK_ => ?_
    simp (config := { decide := true }) only [WOne, List.getElem?_cons_zero, calleeOf, axOp, ev, okk_some, put, if_true, getD_self, getD_ne, List.length_set, size26, et_P, decide_true, List.drop_succ_cons, List.drop_zero, List.take_zero, List.length_cons, List.length_nil, Nat.zero_add, Nat.reduceAdd, Nat.reduceLeDiff, cells_agg, one_bool, List.all_cons, List.all_nil, Bool.and_self, List.nil_append, List.append_nil, storeA, writeAt, List.set_cons_zero, hl, ho]
    refine hK_ _ ?_
    clear hK_
    simp only [WOps]
    refine hK _ ?_
    clear hK
    refine W.ret ⟨.inr rfl, .agg [.bool b', y'], ?_, _, [], view_iv hy2 b' _, b', y', rfl, hy2⟩
    simp (config := { decide := true }) only [List.getElem?_cons_zero, if_true, getD_self, getD_ne, size26, agg26, loadA, readAt, List.drop_zero, List.take_succ_cons, List.take_zero, List.length_cons, List.length_nil, Nat.zero_add, Nat.reduceAdd, Nat.reduceLeDiff, resultsA, Tryz.results58, resultsL, hl]

end Go.AX

/- AX, part 32: sums and products of integers. -/
set_option linter.unusedVariables false
set_option linter.unusedSimpArgs false
set_option maxRecDepth 4000
namespace Go.AX
open Go Go.RowKit Go.Proofs

theorem nv_least {k : Nat} {x : AV} (hx : NV k x) : ∃ k0, NV k0 x ∧ k0 ≤ k ∧ ∀ k', NV k' x → k0 ≤ k' := by
  rcases hx with rfl | ⟨cells, len, cap, rfl, h2, h3, h4⟩
  · exact ⟨0, .inl rfl, Nat.zero_le _, fun _ _ => Nat.zero_le _⟩
  · exact ⟨len, .inr ⟨cells, len, cap, rfl, h2, Nat.le_refl _, h4⟩, h3, fun k' h => (nv_cells h).2.1⟩

theorem add_spec (a b : AV) (k : Nat) (ha : NV k a) (hb : NV k b) (hk : k ≤ 2 ^ 39) : Con 211 [a, b] (Spec 211 [a, b]) := by
  obtain ⟨i, hi, hik, him⟩ := nv_least ha
  obtain ⟨j, hj, hjk, hjm⟩ := nv_least hb
  refine (add_con a b (max i j) (hi.mono (Nat.le_max_left ..)) (hj.mono (Nat.le_max_right ..)) (by omega)).imp fun r hr k' h1 h2 => hr.mono ?_
  have := him k' h1
  have := hjm k' h2
  omega

theorem mul_spec (a b : AV) (k l : Nat) (ha : NV k a) (hb : NV l b) (hk : k ≤ 2 ^ 39) (hl : l ≤ 2 ^ 39) : Con 148 [a, b] (Spec 148 [a, b]) := by
  obtain ⟨i, hi, hik, him⟩ := nv_least ha
  obtain ⟨j, hj, hjk, hjm⟩ := nv_least hb
  refine (mul_con a b i j hi hj (by omega) (by omega)).imp fun r hr k' l' h1 h2 => hr.mono ?_
  have := him k' h1
  have := hjm l' h2
  omega

theorem sub_spec (a b : AV) (k : Nat) (ha : NV k a) (hb : NV k b) (hk : k ≤ 2 ^ 39) : Con 212 [a, b] (Spec 212 [a, b]) := by
  obtain ⟨i, hi, hik, him⟩ := nv_least ha
  obtain ⟨j, hj, hjk, hjm⟩ := nv_least hb
  refine (sub_con a b (max i j) (hi.mono (Nat.le_max_left ..)) (hj.mono (Nat.le_max_right ..)) (by omega)).imp fun r ⟨x, c, hr, hx⟩ k' h1 h2 => ⟨x, c, hr, hx.mono ?_⟩
  have := him k' h1
  have := hjm k' h2
  omega

theorem iMul_con (b1 b2 : Bool) (x y : AV) (k l : Nat) (hx : NV k x) (hy : NV l y) (hk : k ≤ 2 ^ 38) (hl2 : l ≤ 2 ^ 38) : Con 147 [.agg [.bool b1, x], .agg [.bool b2, y]] (fun r => IV (k + l) r) := by
  refine con_of Tryz.func147 rfl ?_
  show W ET _ _ ⟨[.agg [.bool b1, x], .agg [.bool b2, y]] ++ List.replicate 14 .undef, []⟩
  generalize hT : [.agg [.bool b1, x], .agg [.bool b2, y]] ++ List.replicate 14 AV.undef = T
  have hl : T.length = 16 := by subst hT; rfl
  have h0 : T.getD 0 .undef = .agg [.bool b1, x] := by subst hT; rfl
  have h1 : T.getD 1 .undef = .agg [.bool b2, y] := by subst hT; rfl
  clear hT
  have ox := one_nv hx
  have oy := one_nv hy
  refine W.seqk fun K hK => W.region ?_
  refine WOps.cons rfl fun K_ hK_ => ?_
  simp (config := { decide := true }) only [WOne, calleeOf, axOp, ev, okk_some, put, if_true, List.length_nil, newA, cells_agg, one_bool, List.all_cons, List.all_nil, Bool.and_self, List.nil_append, h0, ox]
  refine hK_ _ ?_
  clear hK_
  refine WOps.cons rfl fun K_ hK_ => ?_
  simp (config := { decide := true }) only [WOne, calleeOf, axOp, ev, okk_some, put, if_true, getD_ne, List.length_cons, List.length_nil, Nat.zero_add, newA, cells_agg, one_bool, List.all_cons, List.all_nil, Bool.and_self, List.cons_append, List.nil_append, h1, oy]
  refine hK_ _ ?_
  clear hK_
  refine WOps.cons rfl fun K_ hK_ => ?_
  simp (config := { decide := true }) only [WOne, calleeOf, axOp, okk_some, put, if_true, et_P, List.length_cons, List.length_nil, Nat.zero_add, Nat.reduceAdd, newA, cells_agg, zero26, List.cons_append, List.nil_append]
  refine hK_ _ ?_
  clear hK_
  simp only [WOps]
  refine hK _ ?_
  clear hK
  have hA0 : (fun K : Heap => K[0]? = some (.cells [.bool b1, x]) ∧ K[1]? = some (.cells [.bool b2, y])) [.cells [.bool b1, x], .cells [.bool b2, y], .cells [.bool false, .nilsl]] := ⟨rfl, rfl⟩
  refine W.seqk fun K hK => W.regionl (fun K : Heap => K[0]? = some (.cells [.bool b1, x]) ∧ K[1]? = some (.cells [.bool b2, y])) false (by kernel_rfl) hA0 ?_
  have hAof : ∀ K : Heap, (K[0]? = some (.cells [.bool b1, x]) ∧ K[1]? = some (.cells [.bool b2, y])) ∨ K = [.cells [.bool b1, x], .cells [.bool b2, y], .cells [.bool false, .nilsl]] → K[0]? = some (.cells [.bool b1, x]) ∧ K[1]? = some (.cells [.bool b2, y]) := by
    rintro K (h | rfl)
    · exact h
    · exact ⟨rfl, rfl⟩
  have hne : ∀ ox oy, binA Tryz.prog .neq 4 ox oy (.bool b1) (.bool b2) = some (.bool (b1 != b2)) := by
    intro ox oy
    cases b1 <;> cases b2 <;> rfl
  refine WD.quiet rfl rfl (fun K_ hK_ => by
    have hA_ := hAof K_ (hK_.elim .inl fun e => .inr (by simpa using e))
    simp (config := { decide := true }) only [axOp, ev, keep, getD_self, getD_ne, et_P, addA, Nat.add_zero, size4, F26_0, hl]
    try exact rfl) rfl ?_
  refine WD.quiet rfl rfl (fun K_ hK_ => by
    have hA_ := hAof K_ (hK_.elim .inl fun e => .inr (by simpa using e))
    simp (config := { decide := true }) only [List.getElem?_cons_zero, axOp, ev, keep, put, getD_self, List.length_set, et_P, loadA, readAt, agg4, hl, hA_]
    try exact rfl) rfl ?_
  refine WD.quiet rfl rfl (fun K_ hK_ => by
    have hA_ := hAof K_ (hK_.elim .inl fun e => .inr (by simpa using e))
    simp (config := { decide := true }) only [axOp, ev, keep, put, getD_self, getD_ne, List.length_set, et_P, addA, Nat.add_zero, size4, F26_0, hl]
    try exact rfl) rfl ?_
  refine WD.quiet rfl rfl (fun K_ hK_ => by
    have hA_ := hAof K_ (hK_.elim .inl fun e => .inr (by simpa using e))
    simp (config := { decide := true }) only [List.getElem?_cons_zero, axOp, ev, keep, put, getD_self, List.length_set, et_P, loadA, readAt, agg4, hl, hA_]
    try exact rfl) rfl ?_
  refine WD.quiet rfl rfl (fun K_ hK_ => by
    simp (config := { decide := true }) only [axOp, ev, keep, put, getD_self, getD_ne, List.length_set, et_P, hl, hne]
    try exact rfl) rfl ?_
  refine WD.quiet rfl rfl (fun K_ hK_ => by
    have hA_ := hAof K_ (hK_.elim .inl fun e => .inr (by simpa using e))
    simp (config := { decide := true }) only [axOp, ev, keep, put, getD_self, getD_ne, et_P, addA, Nat.zero_add, size24, F26_1, hl]
    try exact rfl) rfl ?_
  refine WD.quiet rfl rfl (fun K_ hK_ => by
    have hA_ := hAof K_ (hK_.elim .inl fun e => .inr (by simpa using e))
    simp (config := { decide := true }) only [List.getElem?_cons_zero, List.getElem?_cons_succ, axOp, ev, keep, put, getD_self, List.length_set, et_P, loadA, readAt, agg24, hl, hA_]
    try exact rfl) rfl ?_
  refine WD.quiet rfl rfl (fun K_ hK_ => by
    have hA_ := hAof K_ (hK_.elim .inl fun e => .inr (by simpa using e))
    simp (config := { decide := true }) only [axOp, ev, keep, put, getD_self, getD_ne, List.length_set, et_P, addA, Nat.zero_add, size24, F26_1, hl]
    try exact rfl) rfl ?_
  refine WD.quiet rfl rfl (fun K_ hK_ => by
    have hA_ := hAof K_ (hK_.elim .inl fun e => .inr (by simpa using e))
    simp (config := { decide := true }) only [List.getElem?_cons_zero, List.getElem?_cons_succ, axOp, ev, keep, put, getD_self, List.length_set, et_P, loadA, readAt, agg24, hl, hA_]
    try exact rfl) rfl ?_
  refine WD.loud rfl rfl fun K_ hK_ => ?_
  simp (config := { decide := true }) only [WOne, calleeOf, ev, evs, put, getD_self, getD_ne, List.length_set, hl]
  refine call_known (by decide) (viewL_two (view_nv hx _) (view_nv hy _)) (mul_spec x y k l hx hy (by omega) (by omega)) fun z hz => ?_
  simp only [AX.kill, List.append_nil]
  refine hK_ _ _ (fun _ => hA0) ?_
  clear hK_
  have hz' : NV (k + l) z := hz k l hx hy
  refine WD.loud rfl rfl fun K_ hK_ => ?_
  simp (config := { decide := true }) only [WOne, calleeOf, ev, evs, put, getD_self, getD_ne, List.length_set, hl]
  refine call_known (by decide) (viewL_bnv hz' _ _) (made_spec _ z (k + l) hz') fun w hw => ?_
  simp only [AX.kill]
  refine hK_ _ _ (fun _ => hA0) ?_
  clear hK_
  obtain ⟨b', y', rfl, hy2⟩ := hw (k + l) hz'
  have hcl := cells_nv hy2
  have ho := one_nv hy2
  refine WD.loud rfl rfl fun K_ hK_ => ?_
  simp (config := { decide := true }) only [WOne, List.getElem?_cons_zero, List.getElem?_cons_succ, calleeOf, axOp, ev, okk_some, put, if_true, getD_self, getD_ne, List.length_set, size26, et_P, decide_true, List.drop_succ_cons, List.drop_zero, List.take_zero, List.length_cons, List.length_nil, Nat.zero_add, Nat.reduceAdd, Nat.reduceLeDiff, cells_agg, one_bool, List.all_cons, List.all_nil, Bool.and_self, List.nil_append, List.append_nil, storeA, writeAt, List.set_cons_zero, List.set_cons_succ, hl, ho]
  refine hK_ _ _ (fun h => absurd h (by decide)) ?_
  clear hK_
  simp only [WD]
  refine hK _ (W.ret ⟨.inr rfl, .agg [.bool b', y'], ?_, _, [], view_iv hy2 b' _, b', y', rfl, hy2⟩)
  simp (config := { decide := true }) only [List.getElem?_cons_zero, List.getElem?_cons_succ, put, if_true, getD_self, getD_ne, List.length_set, size26, agg26, loadA, readAt, List.drop_zero, List.take_succ_cons, List.take_zero, List.length_cons, List.length_nil, Nat.zero_add, Nat.reduceAdd, Nat.reduceLeDiff, resultsA, Tryz.results147, resultsL, hl]

theorem iAdd_con (b1 b2 : Bool) (x y : AV) (k : Nat) (hx : NV k x) (hy : NV k y) (hk : k ≤ 2 ^ 38) : Con 146 [.agg [.bool b1, x], .agg [.bool b2, y]] (fun r => IV (k + 1) r) := by
  refine con_of Tryz.func146 rfl ?_
  show W ET _ _ ⟨[.agg [.bool b1, x], .agg [.bool b2, y]] ++ List.replicate 45 .undef, []⟩
  generalize hT : [.agg [.bool b1, x], .agg [.bool b2, y]] ++ List.replicate 45 AV.undef = T
  have hl : T.length = 47 := by subst hT; rfl
  have h0 : T.getD 0 .undef = .agg [.bool b1, x] := by subst hT; rfl
  have h1 : T.getD 1 .undef = .agg [.bool b2, y] := by subst hT; rfl
  clear hT
  have ox := one_nv hx
  have oy := one_nv hy
  have heq : ∀ ox oy, binA Tryz.prog .eql 4 ox oy (.bool b1) (.bool b2) = some (.bool (b1 == b2)) := by
    intro ox oy
    cases b1 <;> cases b2 <;> rfl
  refine W.seqk fun K hK => W.region ?_
  refine WOps.cons rfl fun K_ hK_ => ?_
  simp (config := { decide := true }) only [WOne, calleeOf, axOp, ev, okk_some, put, if_true, List.length_nil, newA, cells_agg, one_bool, List.all_cons, List.all_nil, Bool.and_self, List.nil_append, h0, ox]
  refine hK_ _ ?_
  clear hK_
  refine WOps.cons rfl fun K_ hK_ => ?_
  simp (config := { decide := true }) only [WOne, calleeOf, axOp, ev, okk_some, put, if_true, getD_ne, List.length_cons, List.length_nil, Nat.zero_add, newA, cells_agg, one_bool, List.all_cons, List.all_nil, Bool.and_self, List.cons_append, List.nil_append, h1, oy]
  refine hK_ _ ?_
  clear hK_
  refine WOps.cons rfl fun K_ hK_ => ?_
  simp (config := { decide := true }) only [WOne, calleeOf, axOp, okk_some, put, if_true, et_P, List.length_cons, List.length_nil, Nat.zero_add, Nat.reduceAdd, newA, cells_agg, zero26, List.cons_append, List.nil_append]
  refine hK_ _ ?_
  clear hK_
  simp only [WOps]
  refine hK _ ?_
  clear hK
  refine W.seqk fun Ks hKs => ?_
  refine W.seqk fun K hK => W.region ?_
  refine WOps.cons rfl fun K_ hK_ => ?_
  simp (config := { decide := true }) only [WOne, calleeOf, axOp, ev, keep, okk_some, put, getD_self, getD_ne, et_P, addA, Nat.add_zero, size4, F26_0, hl]
  refine hK_ _ ?_
  clear hK_
  refine WOps.cons rfl fun K_ hK_ => ?_
  simp (config := { decide := true }) only [WOne, List.getElem?_cons_zero, calleeOf, axOp, ev, keep, okk_some, put, getD_self, List.length_set, et_P, loadA, readAt, agg4, hl]
  refine hK_ _ ?_
  clear hK_
  refine WOps.cons rfl fun K_ hK_ => ?_
  simp (config := { decide := true }) only [WOne, calleeOf, axOp, ev, keep, okk_some, put, getD_self, getD_ne, List.length_set, et_P, addA, Nat.add_zero, size4, F26_0, hl]
  refine hK_ _ ?_
  clear hK_
  refine WOps.cons rfl fun K_ hK_ => ?_
  simp (config := { decide := true }) only [WOne, List.getElem?_cons_zero, List.getElem?_cons_succ, calleeOf, axOp, ev, keep, okk_some, put, getD_self, List.length_set, et_P, loadA, readAt, agg4, hl]
  refine hK_ _ ?_
  clear hK_
  refine WOps.cons rfl fun K_ hK_ => ?_
  simp (config := { decide := true }) only [WOne, calleeOf, axOp, ev, keep, okk_some, put, getD_self, getD_ne, List.length_set, et_P, hl, heq]
  refine hK_ _ ?_
  clear hK_
  simp only [WOps]
  refine hK _ ?_
  clear hK
  cases hb : (b1 == b2) with
  | true =>
    refine W.cond (b := true) (by simp (config := { decide := true }) only [ev, getD_self, List.length_set, hl]) (fun _ => ?_) (fun h => by simp at h)
    have hA0 : (fun K : Heap => K[0]? = some (.cells [.bool b1, x]) ∧ K[1]? = some (.cells [.bool b2, y])) [.cells [.bool b1, x], .cells [.bool b2, y], .cells [.bool false, .nilsl]] := ⟨rfl, rfl⟩
    refine W.seqk fun K hK => W.regionl (fun K : Heap => K[0]? = some (.cells [.bool b1, x]) ∧ K[1]? = some (.cells [.bool b2, y])) false (by kernel_rfl) hA0 ?_
    have hAof : ∀ K : Heap, (K[0]? = some (.cells [.bool b1, x]) ∧ K[1]? = some (.cells [.bool b2, y])) ∨ K = [.cells [.bool b1, x], .cells [.bool b2, y], .cells [.bool false, .nilsl]] → K[0]? = some (.cells [.bool b1, x]) ∧ K[1]? = some (.cells [.bool b2, y]) := by
      rintro K (h | rfl)
      · exact h
      · exact ⟨rfl, rfl⟩
    refine WD.quiet rfl rfl (fun K_ hK_ => by
      have hA_ := hAof K_ (hK_.elim .inl fun e => .inr (by simpa using e))
      simp (config := { decide := true }) only [axOp, ev, keep, getD_self, getD_ne, et_P, addA, Nat.add_zero, size4, F26_0, hl]
      try exact rfl) rfl ?_
    refine WD.quiet rfl rfl (fun K_ hK_ => by
      have hA_ := hAof K_ (hK_.elim .inl fun e => .inr (by simpa using e))
      simp (config := { decide := true }) only [List.getElem?_cons_zero, axOp, ev, keep, put, getD_self, List.length_set, et_P, loadA, readAt, agg4, hl, hA_]
      try exact rfl) rfl ?_
    refine WD.quiet rfl rfl (fun K_ hK_ => by
      have hA_ := hAof K_ (hK_.elim .inl fun e => .inr (by simpa using e))
      simp (config := { decide := true }) only [axOp, ev, keep, put, getD_self, getD_ne, et_P, addA, Nat.zero_add, size24, F26_1, hl]
      try exact rfl) rfl ?_
    refine WD.quiet rfl rfl (fun K_ hK_ => by
      have hA_ := hAof K_ (hK_.elim .inl fun e => .inr (by simpa using e))
      simp (config := { decide := true }) only [List.getElem?_cons_zero, List.getElem?_cons_succ, axOp, ev, keep, put, getD_self, List.length_set, et_P, loadA, readAt, agg24, hl, hA_]
      try exact rfl) rfl ?_
    refine WD.quiet rfl rfl (fun K_ hK_ => by
      have hA_ := hAof K_ (hK_.elim .inl fun e => .inr (by simpa using e))
      simp (config := { decide := true }) only [axOp, ev, keep, put, getD_self, getD_ne, List.length_set, et_P, addA, Nat.zero_add, size24, F26_1, hl]
      try exact rfl) rfl ?_
    refine WD.quiet rfl rfl (fun K_ hK_ => by
      have hA_ := hAof K_ (hK_.elim .inl fun e => .inr (by simpa using e))
      simp (config := { decide := true }) only [List.getElem?_cons_zero, List.getElem?_cons_succ, axOp, ev, keep, put, getD_self, List.length_set, et_P, loadA, readAt, agg24, hl, hA_]
      try exact rfl) rfl ?_
    refine WD.loud rfl rfl fun K_ hK_ => ?_
    simp (config := { decide := true }) only [WOne, calleeOf, ev, evs, put, getD_self, getD_ne, List.length_set, hl]
    refine call_known (by decide) (viewL_two (view_nv hx _) (view_nv hy _)) (add_spec x y k hx hy (by omega)) fun z hz => ?_
    simp only [AX.kill, List.append_nil]
    refine hK_ _ _ (fun _ => hA0) ?_
    clear hK_
    have hz' : NV (k + 1) z := hz k hx hy
    refine WD.loud rfl rfl fun K_ hK_ => ?_
    simp (config := { decide := true }) only [WOne, calleeOf, ev, evs, put, getD_self, getD_ne, List.length_set, hl]
    refine call_known (by decide) (viewL_bnv hz' _ _) (made_spec _ z (k + 1) hz') fun w hw => ?_
    simp only [AX.kill]
    refine hK_ _ _ (fun _ => hA0) ?_
    clear hK_
    obtain ⟨b', y', rfl, hy2⟩ := hw (k + 1) hz'
    have hcl := cells_nv hy2
    have ho := one_nv hy2
    refine WD.loud rfl rfl fun K_ hK_ => ?_
    simp (config := { decide := true }) only [WOne, List.getElem?_cons_zero, List.getElem?_cons_succ, calleeOf, axOp, ev, okk_some, put, if_true, getD_self, getD_ne, List.length_set, size26, et_P, decide_true, List.drop_succ_cons, List.drop_zero, List.take_zero, List.length_cons, List.length_nil, Nat.zero_add, Nat.reduceAdd, Nat.reduceLeDiff, cells_agg, one_bool, List.all_cons, List.all_nil, Bool.and_self, List.nil_append, List.append_nil, storeA, writeAt, List.set_cons_zero, List.set_cons_succ, hl, ho]
    refine hK_ _ _ (fun h => absurd h (by decide)) ?_
    clear hK_
    simp only [WD]
    refine hK _ (W.ret ⟨.inr rfl, .agg [.bool b', y'], ?_, _, [], view_iv hy2 b' _, b', y', rfl, hy2⟩)
    simp (config := { decide := true }) only [List.getElem?_cons_zero, List.getElem?_cons_succ, put, if_true, getD_self, getD_ne, List.length_set, size26, agg26, loadA, readAt, List.drop_zero, List.take_succ_cons, List.take_zero, List.length_cons, List.length_nil, Nat.zero_add, Nat.reduceAdd, Nat.reduceLeDiff, resultsA, Tryz.results146, resultsL, hl]
  | false =>
    refine W.cond (b := false) (by simp (config := { decide := true }) only [ev, getD_self, List.length_set, hl]) (fun h => by simp at h) (fun _ => W.skip ?_)
    simp only [Th]
    refine hKs _ ?_
    clear hKs
    refine W.seqk fun Ks hKs => ?_
    refine W.seqk fun K hK => W.region ?_
    refine WOps.cons rfl fun K_ hK_ => ?_
    simp (config := { decide := true }) only [WOne, calleeOf, axOp, ev, keep, okk_some, put, getD_self, getD_ne, et_P, addA, Nat.zero_add, size24, F26_1, hl]
    refine hK_ _ ?_
    clear hK_
    refine WOps.cons rfl fun K_ hK_ => ?_
    simp (config := { decide := true }) only [WOne, List.getElem?_cons_zero, List.getElem?_cons_succ, calleeOf, axOp, ev, keep, okk_some, put, getD_self, List.length_set, et_P, loadA, readAt, agg24, hl]
    refine hK_ _ ?_
    clear hK_
    refine WOps.cons rfl fun K_ hK_ => ?_
    simp (config := { decide := true }) only [WOne, calleeOf, axOp, ev, keep, okk_some, put, getD_self, getD_ne, List.length_set, et_P, addA, Nat.zero_add, size24, F26_1, hl]
    refine hK_ _ ?_
    clear hK_
    refine WOps.cons rfl fun K_ hK_ => ?_
    simp (config := { decide := true }) only [WOne, List.getElem?_cons_zero, List.getElem?_cons_succ, calleeOf, axOp, ev, keep, okk_some, put, getD_self, List.length_set, et_P, loadA, readAt, agg24, hl]
    refine hK_ _ ?_
    clear hK_
    refine WOps.cons rfl fun K_ hK_ => ?_
    simp (config := { decide := true }) only [WOne, calleeOf, ev, evs, put, getD_self, getD_ne, List.length_set, hl]
    refine call_known (by decide) (viewL_two (view_nv hx _) (view_nv hy _)) (sub_spec x y k hx hy (by omega)) fun z hz => ?_
    simp only [AX.kill, List.append_nil]
    refine hK_ _ ?_
    clear hK_
    obtain ⟨d, c, rfl, hd⟩ := hz k hx hy
    refine WOps.cons rfl fun K_ hK_ => ?_
    simp (config := { decide := true }) only [WOne, calleeOf, axOp, ev, keep, okk_some, put, getD_self, List.length_set, hl]
    refine hK_ _ ?_
    clear hK_
    refine WOps.cons rfl fun K_ hK_ => ?_
    simp (config := { decide := true }) only [WOne, List.getElem?_cons_zero, calleeOf, axOp, ev, keep, okk_some, put, getD_self, List.length_set, hl]
    refine hK_ _ ?_
    clear hK_
    refine WOps.cons rfl fun K_ hK_ => ?_
    simp (config := { decide := true }) only [WOne, List.getElem?_cons_zero, List.getElem?_cons_succ, calleeOf, axOp, ev, keep, okk_some, put, getD_self, getD_ne, List.length_set, hl]
    refine hK_ _ ?_
    clear hK_
    refine WOps.cons rfl fun K_ hK_ => ?_
    simp (config := { decide := true }) only [WOne, calleeOf, axOp, ev, keep, okk_some, put, getD_self, getD_ne, List.length_set, hl]
    refine hK_ _ ?_
    clear hK_
    refine WOps.cons rfl fun K_ hK_ => ?_
    simp (config := { decide := true }) only [WOne, calleeOf, axOp, ev, keep, okk_some, put, getD_self, getD_ne, List.length_set, hl]
    refine hK_ _ ?_
    clear hK_
    simp only [WOps]
    refine hK _ ?_
    clear hK
    refine W.seqk fun K hK => W.region ?_
    refine WOps.cons rfl fun K_ hK_ => ?_
    simp (config := { decide := true }) only [WOne, calleeOf, axOp, ev, keep, okk_some, put, getD_self, List.length_set, hl]
    refine hK_ _ ?_
    clear hK_
    simp only [WOps]
    refine hK _ ?_
    clear hK
    cases c with
    | true =>
      refine W.cond (b := true) (by simp (config := { decide := true }) only [ev, getD_self, List.length_set, hl]) (fun _ => ?_) (fun h => by simp at h)
      refine W.seqk fun K hK => W.region ?_
      refine WOps.cons rfl fun K_ hK_ => ?_
      simp (config := { decide := true }) only [WOne, calleeOf, axOp, ev, keep, okk_some, put, getD_self, getD_ne, et_P, addA, Nat.add_zero, size4, F26_0, hl]
      refine hK_ _ ?_
      clear hK_
      refine WOps.cons rfl fun K_ hK_ => ?_
      simp (config := { decide := true }) only [WOne, List.getElem?_cons_zero, calleeOf, axOp, ev, keep, okk_some, put, getD_self, List.length_set, et_P, loadA, readAt, agg4, hl]
      refine hK_ _ ?_
      clear hK_
      refine WOps.cons rfl fun K_ hK_ => ?_
      simp (config := { decide := true }) only [WOne, calleeOf, axOp, ev, keep, okk_some, put, getD_self, getD_ne, List.length_set, hl]
      refine hK_ _ ?_
      clear hK_
      refine WOps.cons rfl fun K_ hK_ => ?_
      simp (config := { decide := true }) only [WOne, calleeOf, ev, evs, put, getD_self, getD_ne, List.length_set, hl]
      refine call_known (by decide) (viewL_bnv hd _ _) (made_spec _ d k hd) fun w hw => ?_
      simp only [AX.kill]
      refine hK_ _ ?_
      clear hK_
      obtain ⟨b', y', rfl, hy2⟩ := hw k hd
      have hcl := cells_nv hy2
      have ho := one_nv hy2
      refine WOps.cons rfl fun K_ hK_ => ?_
      simp (config := { decide := true }) only [WOne, List.getElem?_cons_zero, List.getElem?_cons_succ, calleeOf, axOp, ev, okk_some, put, if_true, getD_self, getD_ne, List.length_set, size26, et_P, decide_true, List.drop_succ_cons, List.drop_zero, List.take_zero, List.length_cons, List.length_nil, Nat.zero_add, Nat.reduceAdd, Nat.reduceLeDiff, cells_agg, one_bool, List.all_cons, List.all_nil, Bool.and_self, List.nil_append, List.append_nil, storeA, writeAt, List.set_cons_zero, List.set_cons_succ, hl, ho]
      refine hK_ _ ?_
      clear hK_
      simp only [WOps]
      refine hK _ ?_
      clear hK
      refine W.ret ⟨.inr rfl, .agg [.bool b', y'], ?_, _, [], view_iv hy2 b' _, b', y', rfl, hy2.mono (by omega)⟩
      simp (config := { decide := true }) only [List.getElem?_cons_zero, List.getElem?_cons_succ, if_true, getD_self, getD_ne, List.length_set, size26, agg26, loadA, readAt, List.drop_zero, List.take_succ_cons, List.take_zero, List.length_cons, List.length_nil, Nat.zero_add, Nat.reduceAdd, Nat.reduceLeDiff, resultsA, Tryz.results146, resultsL, hl]
    | false =>
      refine W.cond (b := false) (by simp (config := { decide := true }) only [ev, getD_self, List.length_set, hl]) (fun h => by simp at h) (fun _ => W.skip ?_)
      simp only [Th]
      refine hKs _ ?_
      clear hKs
      refine W.seqk fun K hK => W.region ?_
      refine WOps.cons rfl fun K_ hK_ => ?_
      simp (config := { decide := true }) only [WOne, calleeOf, axOp, ev, keep, okk_some, put, getD_self, getD_ne, List.length_set, et_P, addA, Nat.zero_add, size24, F26_1, hl]
      refine hK_ _ ?_
      clear hK_
      refine WOps.cons rfl fun K_ hK_ => ?_
      simp (config := { decide := true }) only [WOne, List.getElem?_cons_zero, List.getElem?_cons_succ, calleeOf, axOp, ev, keep, okk_some, put, getD_self, List.length_set, et_P, loadA, readAt, agg24, hl]
      refine hK_ _ ?_
      clear hK_
      refine WOps.cons rfl fun K_ hK_ => ?_
      simp (config := { decide := true }) only [WOne, calleeOf, axOp, ev, keep, okk_some, put, getD_self, getD_ne, et_P, addA, Nat.zero_add, size24, F26_1, hl]
      refine hK_ _ ?_
      clear hK_
      refine WOps.cons rfl fun K_ hK_ => ?_
      simp (config := { decide := true }) only [WOne, List.getElem?_cons_zero, List.getElem?_cons_succ, calleeOf, axOp, ev, keep, okk_some, put, getD_self, List.length_set, et_P, loadA, readAt, agg24, hl]
      refine hK_ _ ?_
      clear hK_
      refine WOps.cons rfl fun K_ hK_ => ?_
      simp (config := { decide := true }) only [WOne, calleeOf, ev, evs, put, getD_self, getD_ne, List.length_set, hl]
      refine call_known (by decide) (viewL_two (view_nv hy _) (view_nv hx _)) (sub_spec y x k hy hx (by omega)) fun z hz => ?_
      simp only [AX.kill, List.append_nil]
      refine hK_ _ ?_
      clear hK_
      obtain ⟨d2, c2, rfl, hd2⟩ := hz k hy hx
      refine WOps.cons rfl fun K_ hK_ => ?_
      simp (config := { decide := true }) only [WOne, calleeOf, axOp, ev, keep, okk_some, put, getD_self, List.length_set, hl]
      refine hK_ _ ?_
      clear hK_
      refine WOps.cons rfl fun K_ hK_ => ?_
      simp (config := { decide := true }) only [WOne, List.getElem?_cons_zero, calleeOf, axOp, ev, keep, okk_some, put, getD_self, List.length_set, hl]
      refine hK_ _ ?_
      clear hK_
      refine WOps.cons rfl fun K_ hK_ => ?_
      simp (config := { decide := true }) only [WOne, List.getElem?_cons_zero, List.getElem?_cons_succ, calleeOf, axOp, ev, keep, okk_some, put, getD_self, getD_ne, List.length_set, hl]
      refine hK_ _ ?_
      clear hK_
      refine WOps.cons rfl fun K_ hK_ => ?_
      simp (config := { decide := true }) only [WOne, calleeOf, axOp, ev, keep, okk_some, put, getD_self, getD_ne, List.length_set, hl]
      refine hK_ _ ?_
      clear hK_
      refine WOps.cons rfl fun K_ hK_ => ?_
      simp (config := { decide := true }) only [WOne, calleeOf, axOp, ev, keep, okk_some, put, getD_self, getD_ne, List.length_set, hl]
      refine hK_ _ ?_
      clear hK_
      simp only [WOps]
      refine hK _ ?_
      clear hK
      refine W.seqk fun K hK => W.region ?_
      refine WOps.cons rfl fun K_ hK_ => ?_
      simp (config := { decide := true }) only [WOne, calleeOf, axOp, ev, keep, okk_some, put, getD_self, getD_ne, List.length_set, et_P, addA, Nat.add_zero, size4, F26_0, hl]
      refine hK_ _ ?_
      clear hK_
      refine WOps.cons rfl fun K_ hK_ => ?_
      simp (config := { decide := true }) only [WOne, List.getElem?_cons_zero, List.getElem?_cons_succ, calleeOf, axOp, ev, keep, okk_some, put, getD_self, List.length_set, et_P, loadA, readAt, agg4, hl]
      refine hK_ _ ?_
      clear hK_
      refine WOps.cons rfl fun K_ hK_ => ?_
      simp (config := { decide := true }) only [WOne, calleeOf, axOp, ev, keep, okk_some, put, getD_self, getD_ne, List.length_set, hl]
      refine hK_ _ ?_
      clear hK_
      refine WOps.cons rfl fun K_ hK_ => ?_
      simp (config := { decide := true }) only [WOne, calleeOf, ev, evs, put, getD_self, getD_ne, List.length_set, hl]
      refine call_known (by decide) (viewL_bnv hd2 _ _) (made_spec _ d2 k hd2) fun w hw => ?_
      simp only [AX.kill]
      refine hK_ _ ?_
      clear hK_
      obtain ⟨b', y', rfl, hy2⟩ := hw k hd2
      have hcl := cells_nv hy2
      have ho := one_nv hy2
      refine WOps.cons rfl fun K_ hK_ => ?_
      simp (config := { decide := true }) only [WOne, List.getElem?_cons_zero, List.getElem?_cons_succ, calleeOf, axOp, ev, okk_some, put, if_true, getD_self, getD_ne, List.length_set, size26, et_P, decide_true, List.drop_succ_cons, List.drop_zero, List.take_zero, List.length_cons, List.length_nil, Nat.zero_add, Nat.reduceAdd, Nat.reduceLeDiff, cells_agg, one_bool, List.all_cons, List.all_nil, Bool.and_self, List.nil_append, List.append_nil, storeA, writeAt, List.set_cons_zero, List.set_cons_succ, hl, ho]
      refine hK_ _ ?_
      clear hK_
      simp only [WOps]
      refine hK _ ?_
      clear hK
      refine W.ret ⟨.inr rfl, .agg [.bool b', y'], ?_, _, [], view_iv hy2 b' _, b', y', rfl, hy2.mono (by omega)⟩
      simp (config := { decide := true }) only [List.getElem?_cons_zero, List.getElem?_cons_succ, if_true, getD_self, getD_ne, List.length_set, size26, agg26, loadA, readAt, List.drop_zero, List.take_succ_cons, List.take_zero, List.length_cons, List.length_nil, Nat.zero_add, Nat.reduceAdd, Nat.reduceLeDiff, resultsA, Tryz.results146, resultsL, hl]

end Go.AX

/- AX, part 33: polynomials in recursive form: data, zero, join. -/
set_option linter.unusedVariables false
set_option linter.unusedSimpArgs false
set_option maxRecDepth 4000
namespace Go.AX
open Go Go.RowKit Go.Proofs

theorem view_flat {v : AV} (h : isFlat v = true) (H : Heap) (n : Nat) : view H (n + 1) v = some (v, []) := by
  cases v <;> simp [isFlat] at h <;> rfl

theorem one_flat {v : AV} (h : isFlat v = true) : oneCell v = true := by
  cases v <;> simp [isFlat] at h <;> rfl

theorem cells_flat {v : AV} (h : isFlat v = true) : AV.cells v = [v] := by
  cases v <;> simp [isFlat] at h <;> rfl

theorem nv_flat {k : Nat} {a : AV} (h : NV k a) : isFlat a = true := by
  rcases h with rfl | ⟨cells, len, cap, rfl, _⟩ <;> rfl

theorem viewL_flat {H : Heap} {n : Nat} : ∀ (l : List AV), (∀ c ∈ l, isFlat c = true) → viewL (view H (n + 1)) l = some (l, [])
  | [], _ => rfl
  | c :: l, h => by
    have := viewL_flat (H := H) (n := n) l fun c hc => h c (by simp [hc])
    show (match view H (n + 1) c, viewL (view H (n + 1)) l with | some (x, is), some (xs, js) => some (x :: xs, is ++ js) | _, _ => none) = _
    rw [this, view_flat (h c (by simp))]
    rfl

theorem view_aggflat {H : Heap} {cs : List AV} (h : ∀ c ∈ cs, isFlat c = true) : view H depthA (.agg cs) = some (.agg cs, []) := by
  show (match viewL (view H 39) cs with | some (xs, is) => some (AV.agg xs, is) | none => none) = _
  rw [viewL_flat (n := 38) cs h]

theorem view_slflat {H : Heap} {id off len sz : Nat} {cap : Option Nat} {cs : List AV} (hc : H[id]? = some (.cells cs)) (hle : off + len * sz ≤ cs.length) (hw : ∀ c ∈ cs, isFlat c = true) :
    view H depthA (.sl id off len sz cap) = some (.lst ((cs.drop off).take (len * sz)) len cap, [id]) := by
  have h := viewL_flat (H := H) (n := 38) ((cs.drop off).take (len * sz)) fun c h => hw c (List.mem_of_mem_drop (List.mem_of_mem_take h))
  show (match H[id]? with | some (.cells cs) => if off + len * sz ≤ cs.length then (match viewL (view H 39) ((cs.drop off).take (len * sz)) with | some (xs, is) => some (AV.lst xs len cap, id :: is) | none => none) else none | _ => none) = _
  rw [hc]
  simp only
  rw [if_pos hle, h]

/-- What the cells of any polynomial are. -/
def PV (n : Nat) (cs : List AV) : Prop := ∃ lv ng a b, cs = [.int .i64 lv, .bool ng, a, b] ∧ NV n a ∧ isFlat b = true

theorem CV.pv {L n : Nat} : ∀ {l : Nat} {cs : List AV}, CV l L n cs → PV n cs
  | 0, cs, ⟨ng, a, b, h1, h2, h3⟩ => ⟨0, ng, a, b, h1, h2, by rcases h3 with rfl | ⟨cap, rfl⟩ <;> rfl⟩
  | l + 1, cs, .inl h => CV.pv h
  | l + 1, cs, .inr ⟨ng, a, cells, len, cap, h1, h2, _⟩ => ⟨_, ng, a, _, h1, h2, rfl⟩

theorem CV.mono {L L' n n' : Nat} (hL : L ≤ L') (hn : n ≤ n') : ∀ {l : Nat} {cs : List AV}, CV l L n cs → CV l L' n' cs
  | 0, cs, ⟨ng, a, b, h1, h2, h3⟩ => ⟨ng, a, b, h1, h2.mono hn, h3⟩
  | l + 1, cs, .inl h => .inl (CV.mono hL hn h)
  | l + 1, cs, .inr ⟨ng, a, cells, len, cap, h1, h2, h3, h4, h5, h6⟩ => .inr ⟨ng, a, cells, len, cap, h1, h2.mono hn, h3, h4, by omega, fun i hi => CV.mono hL hn (h6 i hi)⟩

theorem CV.up {L n l : Nat} {cs : List AV} (h : CV l L n cs) : ∀ {l' : Nat}, l ≤ l' → CV l' L n cs := by
  intro l' hl
  induction l' with
  | zero => have : l = 0 := by omega
            subst this; exact h
  | succ m ih =>
    by_cases he : l = m + 1
    · subst he; exact h
    · exact .inl (ih (by omega))

theorem pv_flat {n : Nat} {cs : List AV} (h : PV n cs) : ∀ c ∈ cs, isFlat c = true := by
  obtain ⟨lv, ng, a, b, rfl, h2, h3⟩ := h
  intro c hc
  simp at hc
  rcases hc with rfl | rfl | rfl | rfl
  · rfl
  · rfl
  · exact nv_flat h2
  · exact h3

theorem zero_con (n : Nat) (cs : List AV) (h : PV n cs) (hn : n ≤ 2 ^ 40) : Con 139 [.agg cs] (fun r => ∃ b, r = .bool b) := by
  obtain ⟨lv, ng, a, b, rfl, h2, h3⟩ := h
  refine con_of Tryz.func139 rfl ?_
  show W ET _ _ ⟨[.agg [.int .i64 lv, .bool ng, a, b]] ++ List.replicate 11 .undef, []⟩
  generalize hT : [.agg [.int .i64 lv, .bool ng, a, b]] ++ List.replicate 11 AV.undef = T
  have hl : T.length = 12 := by subst hT; rfl
  have h0 : T.getD 0 .undef = .agg [.int .i64 lv, .bool ng, a, b] := by subst hT; rfl
  clear hT
  have oa := one_nv h2
  have ob := one_flat h3
  have fin : ∀ (T1 : List AV) (c : Bool) (H : Heap), T1.length = 12 → T1.getD 2 .undef = .bool c → ∃ r, resultsA Tryz.prog Tryz.f139 ⟨T1, H⟩ = some r ∧ ∃ r' ids, view H depthA r = some (r', ids) ∧ ∃ b, r' = .bool b := by
    intro T1 c H hl' h2'
    refine ⟨.bool c, ?_, _, [], rfl, c, rfl⟩
    simp (config := { decide := true }) only [resultsA, Tryz.results139, resultsL, h2']
  refine W.seqk fun K hK => W.region ?_
  refine WOps.cons rfl fun K_ hK_ => ?_
  simp (config := { decide := true }) only [WOne, calleeOf, axOp, ev, okk_some, put, if_true, List.length_nil, newA, cells_agg, one_bool, one_int, List.all_cons, List.all_nil, Bool.and_self, List.nil_append, h0, oa, ob]
  refine hK_ _ ?_
  clear hK_
  refine WOps.cons rfl fun K_ hK_ => ?_
  simp (config := { decide := true }) only [WOne, calleeOf, axOp, ev, keep, okk_some, put, ofValue]
  refine hK_ _ ?_
  clear hK_
  simp only [WOps]
  refine hK _ ?_
  clear hK
  refine W.seqk fun K hK => W.region ?_
  by_cases hlv : lv = 0
  · have hb : (lv == 0) = true := by simp [hlv]
    refine WOps.cons rfl fun K_ hK_ => ?_
    simp (config := { decide := true }) only [WOne, calleeOf, axOp, ev, keep, okk_some, put, getD_self, getD_ne, et_P, addA, Nat.add_zero, size3, F29_0, hl]
    refine hK_ _ ?_
    clear hK_
    refine WOps.cons rfl fun K_ hK_ => ?_
    simp (config := { decide := true }) only [WOne, List.getElem?_cons_zero, calleeOf, axOp, ev, keep, okk_some, put, getD_self, List.length_set, et_P, loadA, readAt, agg3, hl]
    refine hK_ _ ?_
    clear hK_
    refine WOps.cons rfl fun K_ hK_ => ?_
    simp (config := { decide := true }) only [WOne, calleeOf, axOp, ev, keep, okk_some, put, if_true, ofValue, getD_self, List.length_set, binA, intOp, hl, hb]
    refine hK_ _ ?_
    clear hK_
    refine WOps.cons rfl fun K_ hK_ => ?_
    simp (config := { decide := true }) only [WOne, calleeOf, axOp, ev, keep, okk_some, put, getD_self, List.length_set, hl]
    refine hK_ _ ?_
    clear hK_
    refine WOps.yes rfl rfl (by simp (config := { decide := true }) only [getD_self, List.length_set, hl]) fun K_ hK_ => ?_
    simp (config := { decide := true }) only [WOne, calleeOf, axOp, ev, keep, okk_some, put, getD_self, getD_ne, size26, et_P, addA, Nat.zero_add, F29_1, hl]
    refine hK_ _ ?_
    clear hK_
    refine WOps.yes rfl rfl (by simp (config := { decide := true }) only [getD_self, getD_ne, List.length_set, hl]) fun K_ hK_ => ?_
    simp (config := { decide := true }) only [WOne, List.getElem?_cons_zero, calleeOf, axOp, ev, keep, okk_some, put, if_true, getD_self, List.length_set, size26, agg26, et_P, loadA, readAt, List.drop_succ_cons, List.drop_zero, List.take_succ_cons, List.take_zero, List.length_cons, List.length_nil, Nat.zero_add, Nat.reduceAdd, Nat.reduceLeDiff, hl]
    refine hK_ _ ?_
    clear hK_
    refine WOps.yes rfl rfl (by simp (config := { decide := true }) only [getD_self, getD_ne, List.length_set, hl]) fun K_ hK_ => ?_
    simp (config := { decide := true }) only [WOne, calleeOf, ev, evs, put, getD_self, List.length_set, hl]
    refine call_known (by decide) (viewL_one (view_iv h2 ng _)) (sign_con ng a n h2 hn) fun z hz => ?_
    simp only [AX.kill]
    refine hK_ _ ?_
    clear hK_
    obtain ⟨zv, rfl⟩ := hz
    refine WOps.yes rfl rfl (by simp (config := { decide := true }) only [getD_self, getD_ne, List.length_set, hl]) fun K_ hK_ => ?_
    simp (config := { decide := true }) only [WOne, calleeOf, axOp, ev, keep, okk_some, put, if_true, ofValue, getD_self, List.length_set, binA, intOp, hl]
    refine hK_ _ ?_
    clear hK_
    refine WOps.cons rfl fun K_ hK_ => ?_
    simp (config := { decide := true }) only [WOne, calleeOf, axOp, ev, keep, okk_some, put, getD_self, getD_ne, List.length_set, hl]
    refine hK_ _ ?_
    clear hK_
    refine WOps.cons rfl fun K_ hK_ => ?_
    simp (config := { decide := true }) only [WOne, calleeOf, axOp, ev, keep, okk_some, put, getD_self, List.length_set, hl]
    refine hK_ _ ?_
    clear hK_
    simp only [WOps]
    refine hK _ (W.ret ⟨.inr rfl, fin _ (zv == 0) _ ?_ ?_⟩) <;> simp (config := { decide := true }) only [getD_self, List.length_set, hl]
  · have hb : (lv == 0) = false := by simp [hlv]
    refine WOps.cons rfl fun K_ hK_ => ?_
    simp (config := { decide := true }) only [WOne, calleeOf, axOp, ev, keep, okk_some, put, getD_self, getD_ne, et_P, addA, Nat.add_zero, size3, F29_0, hl]
    refine hK_ _ ?_
    clear hK_
    refine WOps.cons rfl fun K_ hK_ => ?_
    simp (config := { decide := true }) only [WOne, List.getElem?_cons_zero, calleeOf, axOp, ev, keep, okk_some, put, getD_self, List.length_set, et_P, loadA, readAt, agg3, hl]
    refine hK_ _ ?_
    clear hK_
    refine WOps.cons rfl fun K_ hK_ => ?_
    simp (config := { decide := true }) only [WOne, calleeOf, axOp, ev, keep, okk_some, put, if_true, ofValue, getD_self, List.length_set, binA, intOp, hl, hb]
    refine hK_ _ ?_
    clear hK_
    refine WOps.cons rfl fun K_ hK_ => ?_
    simp (config := { decide := true }) only [WOne, calleeOf, axOp, ev, keep, okk_some, put, getD_self, List.length_set, hl]
    refine hK_ _ ?_
    clear hK_
    refine WOps.no rfl rfl (by simp (config := { decide := true }) only [getD_self, List.length_set, Bool.not_true, hl]) ?_
    refine WOps.no rfl rfl (by simp (config := { decide := true }) only [put, getD_self, getD_ne, List.length_set, Bool.not_true, hl]) ?_
    refine WOps.no rfl rfl (by simp (config := { decide := true }) only [put, getD_self, getD_ne, List.length_set, Bool.not_true, hl]) ?_
    refine WOps.no rfl rfl (by simp (config := { decide := true }) only [put, getD_self, getD_ne, List.length_set, Bool.not_true, hl]) ?_
    refine WOps.cons rfl fun K_ hK_ => ?_
    simp (config := { decide := true }) only [WOne, calleeOf, axOp, ev, keep, okk_some, put, ofValue, getD_self, getD_ne, List.length_set, hl]
    refine hK_ _ ?_
    clear hK_
    refine WOps.cons rfl fun K_ hK_ => ?_
    simp (config := { decide := true }) only [WOne, calleeOf, axOp, ev, keep, okk_some, put, getD_self, List.length_set, hl]
    refine hK_ _ ?_
    clear hK_
    simp only [WOps]
    refine hK _ (W.ret ⟨.inr rfl, fin _ false _ ?_ ?_⟩) <;> simp (config := { decide := true }) only [getD_self, List.length_set, hl]

end Go.AX

/- AX, part 34: polynomials in recursive form: join. -/
set_option linter.unusedVariables false
set_option linter.unusedSimpArgs false
set_option maxRecDepth 4000
namespace Go.AX
open Go Go.RowKit Go.Proofs

theorem idx27 {cells : List AV} {len : Nat} {cap : Option Nat} {i : Nat} (hi : i < len) (h2 : cells.length = len * 4) : indexAddrA Tryz.prog 27 (.lst cells len cap) i = some (.cptr (cells.drop (i * 4))) := by
  have : i * 4 ≤ cells.length := by omega
  simp [indexAddrA, size29, hi, this]

theorem load29c {cells cs : List AV} {len i : Nat} {H : Heap} (hi : i < len) (h2 : cells.length = len * 4) (hc : (cells.drop (i * 4)).take 4 = cs) : loadA Tryz.prog H 29 (.cptr (cells.drop (i * 4))) = some (.agg cs) := by
  have : 0 + 4 ≤ (cells.drop (i * 4)).length := by rw [List.length_drop]; omega
  simp only [loadA, readAt, agg29, size29]
  rw [if_pos this, List.drop_zero, hc]

theorem PL.len {l L n len : Nat} {a : AV} (h : PL l L n a len) : ∀ H, builtinA Tryz.prog .len [27] H [a] = some (.int .i64 (len : Nat), H) := by
  obtain ⟨cells, cap, rfl, _⟩ := h
  intro H
  simp [builtinA]

theorem PL.get {l L n len : Nat} {a : AV} (h : PL l L n a len) {i : Nat} (hi : i < len) : ∃ p cs, indexAddrA Tryz.prog 27 a i = some p ∧ (∀ H, loadA Tryz.prog H 29 p = some (.agg cs)) ∧ CV l L n cs := by
  obtain ⟨cells, cap, rfl, h2, h3, h4⟩ := h
  exact ⟨_, _, idx27 hi h2, fun H => load29c hi h2 rfl, h4 i hi⟩

theorem PL.flat {l L n len : Nat} {a : AV} (h : PL l L n a len) : isFlat a = true := by
  obtain ⟨cells, cap, rfl, _⟩ := h
  rfl

theorem viewL_ipl {a : AV} (h : isFlat a = true) (k : IntKind) (n : Int) (H : Heap) : viewL (view H depthA) [.int k n, a] = some ([.int k n, a], []) := viewL_flat (n := 39) _ (by intro c hc; simp at hc; rcases hc with rfl | rfl <;> first | rfl | exact h)

theorem view_cv {l L n : Nat} {cs : List AV} (h : CV l L n cs) (H : Heap) : view H depthA (.agg cs) = some (.agg cs, []) := view_aggflat (pv_flat h.pv)

theorem join_con (l L n len : Nat) (a : AV) (h : PL l L n a len) (hn : n ≤ 2 ^ 40) (hL : L ≤ 2 ^ 40) : Con 151 [.int .i64 ((l + 1 : Nat) : Int), a] (fun r => ∃ cs, r = .agg cs ∧ CV (l + 1) L n cs) := by
  refine con_of Tryz.func151 rfl ?_
  show W ET _ _ ⟨[.int .i64 ((l + 1 : Nat) : Int), a] ++ List.replicate 32 .undef, []⟩
  generalize hT : [.int .i64 ((l + 1 : Nat) : Int), a] ++ List.replicate 32 AV.undef = T
  have hl : T.length = 34 := by subst hT; rfl
  have h0 : T.getD 0 .undef = .int .i64 ((l + 1 : Nat) : Int) := by subst hT; rfl
  have h1 : T.getD 1 .undef = a := by subst hT; rfl
  clear hT
  have hlen : len ≤ 2 ^ 40 := by obtain ⟨_, _, _, _, h3, _⟩ := h; omega
  have fin : ∀ (T1 : List AV) (cs : List AV), T1.length = 34 → T1.getD 4 .undef = .ptr 0 0 → CV (l + 1) L n cs → ∃ r, resultsA Tryz.prog Tryz.f151 ⟨T1, [.cells cs]⟩ = some r ∧ ∃ r' ids, view [.cells cs] depthA r = some (r', ids) ∧ ∃ cs, r' = .agg cs ∧ CV (l + 1) L n cs := by
    intro T1 cs hl' h4' hcv
    refine ⟨.agg cs, ?_, _, [], view_cv hcv _, cs, rfl, hcv⟩
    obtain ⟨lv, ng, x, b, rfl, _⟩ := hcv.pv
    simp (config := { decide := true }) only [List.getElem?_cons_zero, if_true, size29, agg29, loadA, readAt, List.drop_zero, List.take_succ_cons, List.take_zero, List.length_cons, List.length_nil, Nat.zero_add, Nat.reduceAdd, Nat.reduceLeDiff, resultsA, Tryz.results151, resultsL, h4']
  refine W.seqk fun K hK => W.region ?_
  refine WOps.cons rfl fun K_ hK_ => ?_
  simp (config := { decide := true }) only [WOne, calleeOf, axOp, okk_some, put, if_true, et_P, List.length_nil, newA, cells_agg, zero29, List.nil_append]
  refine hK_ _ ?_
  clear hK_
  simp only [WOps]
  refine hK _ ?_
  clear hK
  refine W.seqk fun K hK => W.region ?_
  refine WOps.cons rfl fun K_ hK_ => ?_
  simp (config := { decide := true }) only [WOne, calleeOf, axOp, ev, keep, okk_some, put, getD_ne, h1]
  refine hK_ _ ?_
  clear hK_
  refine WOps.cons rfl fun K_ hK_ => ?_
  simp (config := { decide := true }) only [WOne, calleeOf, axOp, ev, evs, okk_some, put, getD_self, List.length_set, et_P, hl, h.len]
  refine hK_ _ ?_
  clear hK_
  refine WOps.cons rfl fun K_ hK_ => ?_
  simp (config := { decide := true }) only [WOne, calleeOf, axOp, ev, keep, okk_some, put, getD_self, List.length_set, hl]
  refine hK_ _ ?_
  clear hK_
  simp only [WOps]
  refine hK _ ?_
  clear hK
  refine W.seqk fun K1 hK1 => W.block (W.loop (fun m s => s.H = [.cells [.int .i64 0, .bool false, .nilsl, .nilsl]] ∧ s.T.length = 34 ∧ s.T.getD 0 .undef = .int .i64 ((l + 1 : Nat) : Int) ∧ s.T.getD 1 .undef = a ∧ s.T.getD 4 .undef = .ptr 0 0 ∧ s.T.getD 5 .undef = .int .i64 m ∧ m ≤ len) (n := len) ?_ ?_)
  · refine ⟨rfl, ?_, ?_, ?_, ?_, ?_, Nat.le_refl _⟩ <;> simp (config := { decide := true }) only [getD_self, getD_ne, List.length_set, hl, h0, h1]
  · clear hl h0 h1
    rintro m ⟨T', H'⟩ ⟨rfl, hl', h0', h1', h4', h5', hm⟩
    simp only at hl' h0' h1' h4' h5'
    have hout : ∀ T1 : List AV, T1.length = 34 → T1.getD 0 .undef = .int .i64 ((l + 1 : Nat) : Int) → T1.getD 1 .undef = a → T1.getD 4 .undef = .ptr 0 0 → T1.getD 5 .undef = .int .i64 m → K1 ⟨T1, [.cells [.int .i64 0, .bool false, .nilsl, .nilsl]]⟩ := by
      intro T1 hl' h0' h1' h4' h5'
      refine hK1 _ ?_
      clear hK1
      refine W.seqk fun Ks hKs => ?_
      refine W.seqk fun K hK => W.region ?_
      refine WOps.cons rfl fun K_ hK_ => ?_
      simp (config := { decide := true }) only [WOne, calleeOf, axOp, ev, keep, okk_some, put, h5']
      refine hK_ _ ?_
      clear hK_
      refine WOps.cons rfl fun K_ hK_ => ?_
      simp (config := { decide := true }) only [WOne, calleeOf, axOp, ev, keep, okk_some, put, if_true, ofValue, getD_self, binA, intOp, hl']
      refine hK_ _ ?_
      clear hK_
      simp only [WOps]
      refine hK _ ?_
      clear hK
      by_cases hm0 : m = 0
      · have hb : ((m : Int) == 0) = true := by simp [hm0]
        refine W.cond (b := true) (by simp (config := { decide := true }) only [ev, getD_self, List.length_set, hl', hb]) (fun _ => ?_) (fun h => by simp at h)
        refine W.seqk fun K hK => W.region ?_
        refine WOps.cons rfl fun K_ hK_ => ?_
        simp (config := { decide := true }) only [WOne, calleeOf, axOp, keep, okk_some, put, Option.map_some, et_P, cells_agg, zero29, evParts, fillA, Tryz.underlying29, PL29]
        refine hK_ _ ?_
        clear hK_
        refine WOps.cons rfl fun K_ hK_ => ?_
        simp (config := { decide := true }) only [WOne, List.getElem?_cons_zero, calleeOf, axOp, ev, okk_some, put, if_true, getD_self, getD_ne, List.length_set, List.drop_succ_cons, List.drop_zero, List.take_zero, List.length_cons, List.length_nil, Nat.zero_add, Nat.reduceAdd, cells_agg, List.nil_append, List.append_nil, storeA, writeAt, List.set_cons_zero, hl', h4']
        refine hK_ _ ?_
        clear hK_
        simp only [WOps]
        refine hK _ ?_
        clear hK
        refine W.ret ⟨.inr rfl, fin _ _ ?_ ?_ (CV.up (l := 0) ⟨false, .nilsl, .nilsl, rfl, .inl rfl, .inl rfl⟩ (by omega))⟩ <;> simp (config := { decide := true }) only [getD_ne, List.length_set, hl', h4']
      have hb : ((m : Int) == 0) = false := by simp; omega
      refine W.cond (b := false) (by simp (config := { decide := true }) only [ev, getD_self, List.length_set, hl', hb]) (fun h => by simp at h) (fun _ => W.skip ?_)
      simp only [Th]
      refine hKs _ ?_
      clear hKs
      refine W.seqk fun Ks hKs => ?_
      refine W.seqk fun K hK => W.region ?_
      refine WOps.cons rfl fun K_ hK_ => ?_
      simp (config := { decide := true }) only [WOne, calleeOf, axOp, ev, keep, okk_some, put, getD_ne, h5']
      refine hK_ _ ?_
      clear hK_
      refine WOps.cons rfl fun K_ hK_ => ?_
      simp (config := { decide := true }) only [WOne, calleeOf, axOp, ev, keep, okk_some, put, if_true, ofValue, getD_self, List.length_set, binA, intOp, hl']
      refine hK_ _ ?_
      clear hK_
      simp only [WOps]
      refine hK _ ?_
      clear hK
      by_cases hm1 : m = 1
      · have hb : ((m : Int) == 1) = true := by simp [hm1]
        refine W.cond (b := true) (by simp (config := { decide := true }) only [ev, getD_self, List.length_set, hl', hb]) (fun _ => ?_) (fun h => by simp at h)
        obtain ⟨p, cs, hp, hld, hcv⟩ := h.get (i := 0) (by omega)
        obtain ⟨lv, ng, x, b, rfl, hx, hbf⟩ := hcv.pv
        have ox := one_nv hx
        have ob := one_flat hbf
        have hp0 : indexAddrA Tryz.prog 27 a 0 = some p := hp
        refine W.seqk fun K hK => W.region ?_
        refine WOps.cons rfl fun K_ hK_ => ?_
        simp (config := { decide := true }) only [WOne, calleeOf, axOp, ev, keep, okk_some, put, getD_ne, h1']
        refine hK_ _ ?_
        clear hK_
        refine WOps.cons rfl fun K_ hK_ => ?_
        simp (config := { decide := true }) only [WOne, calleeOf, axOp, ev, keep, okk_some, put, if_true, ofValue, getD_self, List.length_set, Option.bind_some, et_P, hl', asNat, Int.toNat_zero, hp0]
        refine hK_ _ ?_
        clear hK_
        refine WOps.cons rfl fun K_ hK_ => ?_
        simp (config := { decide := true }) only [WOne, calleeOf, axOp, ev, keep, okk_some, put, getD_self, List.length_set, et_P, hl', hld]
        refine hK_ _ ?_
        clear hK_
        refine WOps.cons rfl fun K_ hK_ => ?_
        simp (config := { decide := true }) only [WOne, List.getElem?_cons_zero, calleeOf, axOp, ev, okk_some, put, if_true, getD_self, getD_ne, List.length_set, size29, et_P, decide_true, List.drop_succ_cons, List.drop_zero, List.take_zero, List.length_cons, List.length_nil, Nat.zero_add, Nat.reduceAdd, Nat.reduceLeDiff, cells_agg, one_bool, one_int, List.all_cons, List.all_nil, Bool.and_self, List.nil_append, List.append_nil, storeA, writeAt, List.set_cons_zero, hl', h4', ox, ob]
        refine hK_ _ ?_
        clear hK_
        simp only [WOps]
        refine hK _ ?_
        clear hK
        refine W.ret ⟨.inr rfl, fin _ _ ?_ ?_ (.inl hcv)⟩ <;> simp (config := { decide := true }) only [getD_ne, List.length_set, hl', h4']
      have hb : ((m : Int) == 1) = false := by simp; omega
      refine W.cond (b := false) (by simp (config := { decide := true }) only [ev, getD_self, List.length_set, hl', hb]) (fun h => by simp at h) (fun _ => W.skip ?_)
      simp only [Th]
      refine hKs _ ?_
      clear hKs
      obtain ⟨cells, cap, rfl, c2, c3, c4⟩ := h
      have hs : ∀ H, sliceA Tryz.prog H 27 (.lst cells len cap) none (some (.int .i64 (m : Nat))) (some (.int .i64 (m : Nat))) = some (.lst (cells.take (m * 4)) m (some m)) := by
        intro H
        simp [sliceA, size29, bnds, natOr, asNat_nat, hm]
      obtain ⟨s1, s2⟩ := SL_take c2 c4 hm
      refine W.seqk fun K hK => W.region ?_
      refine WOps.cons rfl fun K_ hK_ => ?_
      simp (config := { decide := true }) only [WOne, calleeOf, axOp, ev, keep, okk_some, put, getD_ne, h0']
      refine hK_ _ ?_
      clear hK_
      refine WOps.cons rfl fun K_ hK_ => ?_
      simp (config := { decide := true }) only [WOne, calleeOf, axOp, ev, keep, okk_some, put, getD_ne, h1']
      refine hK_ _ ?_
      clear hK_
      refine WOps.cons rfl fun K_ hK_ => ?_
      simp (config := { decide := true }) only [WOne, calleeOf, axOp, ev, keep, okk_some, put, getD_ne, h5']
      refine hK_ _ ?_
      clear hK_
      refine WOps.cons rfl fun K_ hK_ => ?_
      simp (config := { decide := true }) only [WOne, calleeOf, axOp, ev, keep, okk_some, put, getD_ne, h5']
      refine hK_ _ ?_
      clear hK_
      refine WOps.cons rfl fun K_ hK_ => ?_
      simp (config := { decide := true }) only [WOne, calleeOf, axOp, ev, keep, okk_some, put, getD_self, getD_ne, List.length_set, et_P, hl', optEv, hs]
      refine hK_ _ ?_
      clear hK_
      refine WOps.cons rfl fun K_ hK_ => ?_
      simp (config := { decide := true }) only [WOne, List.getElem?_cons_zero, List.getElem?_cons_succ, calleeOf, axOp, ev, keep, okk_some, put, if_true, getD_self, getD_ne, List.length_set, Option.map_some, et_P, List.drop_succ_cons, List.drop_zero, List.take_succ_cons, List.take_zero, List.length_cons, List.length_nil, Nat.zero_add, Nat.reduceAdd, Nat.reduceLeDiff, cells_agg, cells_int, cells_lst, zero29, List.cons_append, List.nil_append, List.append_nil, writeAt, evParts, fillA, Tryz.underlying29, PL29, hl']
      refine hK_ _ ?_
      clear hK_
      refine WOps.cons rfl fun K_ hK_ => ?_
      simp (config := { decide := true }) only [WOne, List.getElem?_cons_zero, calleeOf, axOp, ev, okk_some, put, if_true, getD_self, getD_ne, List.length_set, size29, et_P, decide_true, List.drop_succ_cons, List.drop_zero, List.take_zero, List.length_cons, List.length_nil, Nat.zero_add, Nat.reduceAdd, Nat.reduceLeDiff, cells_agg, one_bool, one_int, one_nilsl, one_lst, List.all_cons, List.all_nil, Bool.and_self, List.nil_append, List.append_nil, storeA, writeAt, List.set_cons_zero, hl', h4']
      refine hK_ _ ?_
      clear hK_
      simp only [WOps]
      refine hK _ ?_
      clear hK
      refine W.ret ⟨.inr rfl, fin _ _ ?_ ?_ (.inr ⟨false, .nilsl, _, m, _, rfl, .inl rfl, s1, by omega, by omega, s2⟩)⟩ <;> simp (config := { decide := true }) only [getD_ne, List.length_set, hl', h4']
    refine W.seqk fun K2 hK2 => ?_
    refine W.seqk fun K3 hK3 => W.region ?_
    cases m with
    | zero =>
      refine WOps.cons rfl fun K_ hK_ => ?_
      simp (config := { decide := true }) only [WOne, calleeOf, axOp, ev, keep, okk_some, put, h5', Int.natCast_zero]
      refine hK_ _ ?_
      clear hK_
      refine WOps.cons rfl fun K_ hK_ => ?_
      simp (config := { decide := true }) only [WOne, calleeOf, axOp, ev, keep, okk_some, put, if_true, ofValue, getD_self, binA, intOp, decide_false, hl']
      refine hK_ _ ?_
      clear hK_
      refine WOps.cons rfl fun K_ hK_ => ?_
      simp (config := { decide := true }) only [WOne, calleeOf, axOp, ev, keep, okk_some, put, getD_self, List.length_set, hl']
      refine hK_ _ ?_
      clear hK_
      refine WOps.no rfl rfl (by simp (config := { decide := true }) only [getD_self, List.length_set, Bool.not_true, hl']) ?_
      refine WOps.no rfl rfl (by simp (config := { decide := true }) only [put, getD_self, getD_ne, List.length_set, Bool.not_true, hl']) ?_
      refine WOps.no rfl rfl (by simp (config := { decide := true }) only [put, getD_self, getD_ne, List.length_set, Bool.not_true, hl']) ?_
      refine WOps.no rfl rfl (by simp (config := { decide := true }) only [put, getD_self, getD_ne, List.length_set, Bool.not_true, hl']) ?_
      refine WOps.no rfl rfl (by simp (config := { decide := true }) only [put, getD_self, getD_ne, List.length_set, Bool.not_true, hl']) ?_
      refine WOps.no rfl rfl (by simp (config := { decide := true }) only [put, getD_self, getD_ne, List.length_set, Bool.not_true, hl']) ?_
      refine WOps.cons rfl fun K_ hK_ => ?_
      simp (config := { decide := true }) only [WOne, calleeOf, axOp, ev, keep, okk_some, put, ofValue, getD_self, getD_ne, List.length_set, hl']
      refine hK_ _ ?_
      clear hK_
      simp only [WOps]
      refine hK3 _ ?_
      refine W.cond (b := false) (by simp (config := { decide := true }) only [ev, getD_self, List.length_set, hl']) (fun h => by simp at h) (fun _ => W.exit ?_)
      simp only [Th, outOf, if_true]
      refine hout _ ?_ ?_ ?_ ?_ ?_ <;> simp (config := { decide := true }) only [getD_ne, List.length_set, hl', h0', h1', h4', h5']
    | succ m =>
      obtain ⟨p, cs, hp, hld, hcv⟩ := h.get (i := m) (by omega)
      have hpos : ((((m + 1 : Nat) : Int)) > 0) = True := by simp
      have hw1 : IntKind.i64.wrap (((m + 1 : Nat) : Int) - 1) = (m : Int) := by rw [wrapN] <;> omega
      refine WOps.cons rfl fun K_ hK_ => ?_
      simp (config := { decide := true }) only [WOne, calleeOf, axOp, ev, keep, okk_some, put, h5']
      refine hK_ _ ?_
      clear hK_
      refine WOps.cons rfl fun K_ hK_ => ?_
      simp (config := { decide := true }) only [WOne, calleeOf, axOp, ev, keep, okk_some, put, if_true, ofValue, getD_self, binA, intOp, decide_true, hl', hpos]
      refine hK_ _ ?_
      clear hK_
      refine WOps.cons rfl fun K_ hK_ => ?_
      simp (config := { decide := true }) only [WOne, calleeOf, axOp, ev, keep, okk_some, put, getD_self, List.length_set, hl']
      refine hK_ _ ?_
      clear hK_
      refine WOps.yes rfl rfl (by simp (config := { decide := true }) only [getD_self, List.length_set, hl']) fun K_ hK_ => ?_
      simp (config := { decide := true }) only [WOne, calleeOf, axOp, ev, keep, okk_some, put, getD_ne, h1']
      refine hK_ _ ?_
      clear hK_
      refine WOps.yes rfl rfl (by simp (config := { decide := true }) only [getD_self, getD_ne, List.length_set, hl']) fun K_ hK_ => ?_
      simp (config := { decide := true }) only [WOne, calleeOf, axOp, ev, keep, okk_some, put, getD_ne, h5']
      refine hK_ _ ?_
      clear hK_
      refine WOps.yes rfl rfl (by simp (config := { decide := true }) only [getD_self, getD_ne, List.length_set, hl']) fun K_ hK_ => ?_
      simp (config := { decide := true }) only [WOne, calleeOf, axOp, ev, keep, okk_some, put, if_true, ofValue, getD_self, List.length_set, binA, intOp, hl', hw1]
      refine hK_ _ ?_
      clear hK_
      refine WOps.yes rfl rfl (by simp (config := { decide := true }) only [getD_self, getD_ne, List.length_set, hl']) fun K_ hK_ => ?_
      simp (config := { decide := true }) only [WOne, calleeOf, axOp, ev, keep, okk_some, put, getD_self, getD_ne, List.length_set, Option.bind_some, et_P, hl', asNat_nat, hp]
      refine hK_ _ ?_
      clear hK_
      refine WOps.yes rfl rfl (by simp (config := { decide := true }) only [getD_self, getD_ne, List.length_set, hl']) fun K_ hK_ => ?_
      simp (config := { decide := true }) only [WOne, calleeOf, axOp, ev, keep, okk_some, put, getD_self, List.length_set, et_P, hl', hld]
      refine hK_ _ ?_
      clear hK_
      refine WOps.yes rfl rfl (by simp (config := { decide := true }) only [getD_self, getD_ne, List.length_set, hl']) fun K_ hK_ => ?_
      simp (config := { decide := true }) only [WOne, calleeOf, ev, evs, put, getD_self, List.length_set, hl']
      refine call_known (by decide) (viewL_one (view_cv hcv _)) (zero_con n cs hcv.pv hn) fun z hz => ?_
      simp only [AX.kill]
      refine hK_ _ ?_
      clear hK_
      obtain ⟨zb, rfl⟩ := hz
      refine WOps.cons rfl fun K_ hK_ => ?_
      simp (config := { decide := true }) only [WOne, calleeOf, axOp, ev, keep, okk_some, put, getD_self, getD_ne, List.length_set, hl']
      refine hK_ _ ?_
      clear hK_
      simp only [WOps]
      refine hK3 _ ?_
      cases zb with
      | true =>
        refine W.cond (b := true) (by simp (config := { decide := true }) only [ev, getD_self, List.length_set, hl']) (fun _ => ?_) (fun h => by simp at h)
        refine W.skip (hK2 _ ?_)
        clear hK2 hK3
        refine W.block (W.region ?_)
        refine WOps.cons rfl fun K_ hK_ => ?_
        simp (config := { decide := true }) only [WOne, calleeOf, axOp, ev, keep, okk_some, put, getD_ne, h5']
        refine hK_ _ ?_
        clear hK_
        refine WOps.cons rfl fun K_ hK_ => ?_
        simp (config := { decide := true }) only [WOne, calleeOf, axOp, ev, keep, okk_some, put, if_true, ofValue, getD_self, List.length_set, binA, intOp, hl', hw1]
        refine hK_ _ ?_
        clear hK_
        refine WOps.cons rfl fun K_ hK_ => ?_
        simp (config := { decide := true }) only [WOne, calleeOf, axOp, ev, keep, okk_some, put, getD_self, List.length_set, hl']
        refine hK_ _ ?_
        clear hK_
        simp only [WOps, outOf, Th]
        refine ⟨m, Nat.lt_succ_self m, by trivial, ?_, ?_, ?_, ?_, ?_, by omega⟩ <;> simp (config := { decide := true }) only [getD_self, getD_ne, List.length_set, hl', h0', h1', h4']
      | false =>
        refine W.cond (b := false) (by simp (config := { decide := true }) only [ev, getD_self, List.length_set, hl']) (fun h => by simp at h) (fun _ => W.exit ?_)
        simp only [Th, outOf, if_true]
        refine hout _ ?_ ?_ ?_ ?_ ?_ <;> simp (config := { decide := true }) only [getD_ne, List.length_set, hl', h0', h1', h4', h5']

end Go.AX

/- AX, part 35: polynomials: bounds meet; the coefficients. -/
set_option linter.unusedVariables false
set_option linter.unusedSimpArgs false
set_option maxRecDepth 4000
namespace Go.AX
open Go Go.RowKit Go.Proofs

theorem NV.inf {n n' : Nat} {a : AV} (h : NV n a) (h' : NV n' a) : NV (min n n') a := by
  rcases h with rfl | ⟨cells, len, cap, rfl, h2, h3, h4⟩
  · exact .inl rfl
  · have := (nv_cells h').2.1
    exact .inr ⟨cells, len, cap, rfl, h2, by omega, h4⟩

theorem CV.level {L n : Nat} : ∀ {l : Nat} {cs : List AV}, CV l L n cs → ∃ lv : Nat, lv ≤ l ∧ cs[0]? = some (.int .i64 lv)
  | 0, cs, ⟨ng, a, b, h1, _⟩ => ⟨0, Nat.le_refl _, by rw [h1]; rfl⟩
  | l + 1, cs, .inl h => let ⟨lv, h1, h2⟩ := CV.level h; ⟨lv, by omega, h2⟩
  | l + 1, cs, .inr ⟨ng, a, cells, len, cap, h1, _⟩ => ⟨l + 1, Nat.le_refl _, by rw [h1]; rfl⟩

theorem CV.inf {L n L' n' : Nat} : ∀ {l : Nat} {cs : List AV}, CV l L n cs → CV l L' n' cs → CV l (min L L') (min n n') cs
  | 0, cs, ⟨ng, a, b, h1, h2, h3⟩, ⟨ng', a', b', h1', h2', _⟩ => by
    rw [h1] at h1'
    simp at h1'
    obtain ⟨_, rfl, _⟩ := h1'
    exact ⟨ng, a, b, h1, h2.inf h2', h3⟩
  | l + 1, cs, .inl h, .inl h' => .inl (CV.inf h h')
  | l + 1, cs, .inl h, .inr ⟨ng, a, cells, len, cap, h1, _⟩ => by
    obtain ⟨lv, g1, g2⟩ := CV.level h
    rw [h1] at g2
    simp at g2
    omega
  | l + 1, cs, .inr ⟨ng, a, cells, len, cap, h1, _⟩, .inl h => by
    obtain ⟨lv, g1, g2⟩ := CV.level h
    rw [h1] at g2
    simp at g2
    omega
  | l + 1, cs, .inr ⟨ng, a, cells, len, cap, h1, h2, h3, h4, h5, h6⟩, .inr ⟨ng', a', cells', len', cap', h1', h2', h3', h4', h5', h6'⟩ => by
    rw [h1] at h1'
    simp at h1'
    obtain ⟨_, rfl, rfl, rfl, _⟩ := h1'
    exact .inr ⟨ng, a, cells, len, cap, h1, h2.inf h2', h3, h4, by omega, fun i hi => CV.inf (h6 i hi) (h6' i hi)⟩

theorem PL.inf {l L n L' n' len : Nat} {a : AV} (h : PL l L n a len) (h' : PL l L' n' a len) : PL l (min L L') (min n n') a len := by
  obtain ⟨cells, cap, rfl, h2, h3, h4⟩ := h
  obtain ⟨cells', cap', e, h2', h3', h4'⟩ := h'
  simp at e
  obtain ⟨rfl, rfl⟩ := e
  exact ⟨cells, cap, rfl, h2, by omega, fun i hi => CV.inf (h4 i hi) (h4' i hi)⟩

theorem PL.mono {l L n L' n' len : Nat} {a : AV} (h : PL l L n a len) (hL : L ≤ L') (hn : n ≤ n') : PL l L' n' a len := by
  obtain ⟨cells, cap, rfl, h2, h3, h4⟩ := h
  exact ⟨cells, cap, rfl, h2, by omega, fun i hi => CV.mono hL hn (h4 i hi)⟩

/-- The least bounds of something whose bounds meet. -/
theorem least2 {P : Nat → Nat → Prop} (hinf : ∀ L n L' n', P L n → P L' n' → P (min L L') (min n n')) {L n : Nat} (h : P L n) : ∃ L0 n0, P L0 n0 ∧ L0 ≤ L ∧ n0 ≤ n ∧ ∀ L' n', P L' n' → L0 ≤ L' ∧ n0 ≤ n' := by
  obtain ⟨L0, ⟨n1, hL0⟩, hLm⟩ := least (fun L => ∃ n, P L n) L ⟨n, h⟩
  obtain ⟨n0, ⟨L1, hn0⟩, hnm⟩ := least (fun n => ∃ L, P L n) n ⟨L, h⟩
  have hm := hinf _ _ _ _ hL0 hn0
  have hL1 : L0 ≤ L1 := hLm L1 ⟨n0, hn0⟩
  have hn1 : n0 ≤ n1 := hnm n1 ⟨L0, hL0⟩
  rw [Nat.min_eq_left hL1, Nat.min_eq_right hn1] at hm
  exact ⟨L0, n0, hm, hLm L ⟨n, h⟩, hnm n ⟨L, h⟩, fun L' n' h' => ⟨hLm L' ⟨n', h'⟩, hnm n' ⟨L', h'⟩⟩⟩

theorem join_spec (l L n len : Nat) (a : AV) (h : PL l L n a len) (hn : n ≤ 2 ^ 40) (hL : L ≤ 2 ^ 40) : Con 151 [.int .i64 ((l + 1 : Nat) : Int), a] (Spec 151 [.int .i64 ((l + 1 : Nat) : Int), a]) := by
  obtain ⟨L0, n0, h0, hL0, hn0, hmin⟩ := least2 (P := fun L n => PL l L n a len) (fun _ _ _ _ => PL.inf) h
  refine (join_con l L0 n0 len a h0 (by omega) (by omega)).imp fun r hr l' L' n' len' hl hp => ?_
  have hll : l' = l := by omega
  subst hll
  have hlen : len' = len := by
    obtain ⟨_, _, e, _⟩ := hp
    obtain ⟨_, _, e', _⟩ := h
    rw [e] at e'
    simp at e'
    exact e'.2.1
  subst hlen
  obtain ⟨cs, h1, h2⟩ := hr
  obtain ⟨m1, m2⟩ := hmin L' n' hp
  exact ⟨cs, h1, CV.mono m1 m2 h2⟩

end Go.AX

/- AX, part 36: polynomials: the coefficients. -/
set_option linter.unusedVariables false
set_option linter.unusedSimpArgs false
set_option maxRecDepth 4000
namespace Go.AX
open Go Go.RowKit Go.Proofs

theorem bytes29 : bytesT Tryz.prog 29 = some 64 := by kernel_rfl

theorem CV.flats {l L n len : Nat} {cells : List AV} (h2 : cells.length = len * 4) (h : ∀ i, i < len → CV l L n ((cells.drop (i * 4)).take 4)) : ∀ c ∈ cells, isFlat c = true := by
  intro c hc
  obtain ⟨j, hj⟩ := List.getElem?_of_mem hc
  have hlt := (List.getElem?_eq_some_iff.1 hj).1
  have hi : j / 4 < len := by omega
  refine pv_flat (h (j / 4) hi).pv c ?_
  have : ((cells.drop (j / 4 * 4)).take 4)[j % 4]? = some c := by
    rw [List.getElem?_take_of_lt (by omega), List.getElem?_drop, ← hj]
    congr 1
    omega
  exact List.mem_of_getElem? this

theorem all_one_flat {cs : List AV} (h : ∀ c ∈ cs, isFlat c = true) : cs.all oneCell = true := List.all_eq_true.2 fun c hc => one_flat (h c hc)

/-- A fresh copy of a list. -/
theorem append_fresh {H : Heap} {cells : List AV} {len : Nat} {cap : Option Nat} (h2 : cells.length = len * 4) (h1 : 1 ≤ len) (hlen : len ≤ 2 ^ 38) (hf : ∀ c ∈ cells, isFlat c = true) :
    builtinA Tryz.prog .append [27, 27] H [.lst [] 0 (some 0), .lst cells len cap] = some (.sl H.length 0 len 4 none, H ++ [.cells cells]) := by
  have hroom : len * 64 ≤ roomA := by unfold roomA; omega
  have hroom2 : (0 + len) * 64 ≤ roomA := by rw [Nat.zero_add]; exact hroom
  have hcs : cells.take (len * 4) = cells := List.take_of_length_le (by omega)
  have hle : len * 4 ≤ cells.length := by omega
  have hn0 : ¬ len = 0 := by omega
  have hpos : 0 < 0 + len := by omega
  simp only [builtinA, appendA, P27, size29, bytes29, lenA, cellsOf, if_pos hle, hcs, all_one_flat hf, hn0, if_false, Bool.not_true, Bool.false_eq_true, zero29, Option.all_some, AV.cells, List.length_cons, List.length_nil]
  simp [hroom]
  omega

theorem coefs_con (l L n : Nat) (p : List AV) (h : CV (l + 1) L n p) (hL1 : 1 ≤ L) (hL : L ≤ 2 ^ 38) : Con 153 [.agg p, .int .i64 ((l + 1 : Nat) : Int)] (fun r => ∃ len, 1 ≤ len ∧ PL l L n r len) := by
  have hpv := h.pv
  have hflat := pv_flat hpv
  obtain ⟨lv, ng, a, b, rfl, ha, hb⟩ := hpv
  refine con_of Tryz.func153 rfl ?_
  show W ET _ _ ⟨[.agg [.int .i64 lv, .bool ng, a, b], .int .i64 ((l + 1 : Nat) : Int)] ++ List.replicate 19 .undef, []⟩
  generalize hT : [.agg [.int .i64 lv, .bool ng, a, b], .int .i64 ((l + 1 : Nat) : Int)] ++ List.replicate 19 AV.undef = T
  have hl : T.length = 21 := by subst hT; rfl
  have h0 : T.getD 0 .undef = .agg [.int .i64 lv, .bool ng, a, b] := by subst hT; rfl
  have h1 : T.getD 1 .undef = .int .i64 ((l + 1 : Nat) : Int) := by subst hT; rfl
  clear hT
  have oa := one_nv ha
  have ob := one_flat hb
  refine W.seqk fun K hK => W.region ?_
  refine WOps.cons rfl fun K_ hK_ => ?_
  simp (config := { decide := true }) only [WOne, calleeOf, axOp, ev, okk_some, put, if_true, List.length_nil, newA, cells_agg, one_bool, one_int, List.all_cons, List.all_nil, Bool.and_self, List.nil_append, h0, oa, ob]
  refine hK_ _ ?_
  clear hK_
  refine WOps.cons rfl fun K_ hK_ => ?_
  simp (config := { decide := true }) only [WOne, calleeOf, axOp, ev, keep, okk_some, put, ofValue]
  refine hK_ _ ?_
  clear hK_
  simp only [WOps]
  refine hK _ ?_
  clear hK
  refine W.seqk fun Ks hKs => ?_
  refine W.seqk fun K hK => W.region ?_
  by_cases hlv : lv = ((l + 1 : Nat) : Int)
  · have hb1 : (lv == ((l + 1 : Nat) : Int)) = true := by simp [hlv]
    have hpos : (((l + 1 : Nat) : Int) > 0) = True := by simp
    refine WOps.cons rfl fun K_ hK_ => ?_
    simp (config := { decide := true }) only [WOne, calleeOf, axOp, ev, keep, okk_some, put, getD_self, getD_ne, et_P, addA, Nat.add_zero, size3, F29_0, hl]
    refine hK_ _ ?_
    clear hK_
    refine WOps.cons rfl fun K_ hK_ => ?_
    simp (config := { decide := true }) only [WOne, List.getElem?_cons_zero, calleeOf, axOp, ev, keep, okk_some, put, getD_self, List.length_set, et_P, loadA, readAt, agg3, hl]
    refine hK_ _ ?_
    clear hK_
    refine WOps.cons rfl fun K_ hK_ => ?_
    simp (config := { decide := true }) only [WOne, calleeOf, axOp, ev, keep, okk_some, put, getD_ne, h1]
    refine hK_ _ ?_
    clear hK_
    refine WOps.cons rfl fun K_ hK_ => ?_
    simp (config := { decide := true }) only [WOne, calleeOf, axOp, ev, keep, okk_some, put, if_true, getD_self, getD_ne, List.length_set, binA, intOp, hl, hb1]
    refine hK_ _ ?_
    clear hK_
    refine WOps.cons rfl fun K_ hK_ => ?_
    simp (config := { decide := true }) only [WOne, calleeOf, axOp, ev, keep, okk_some, put, getD_self, List.length_set, hl]
    refine hK_ _ ?_
    clear hK_
    refine WOps.yes rfl rfl (by simp (config := { decide := true }) only [getD_self, List.length_set, hl]) fun K_ hK_ => ?_
    simp (config := { decide := true }) only [WOne, calleeOf, axOp, ev, keep, okk_some, put, getD_ne, h1]
    refine hK_ _ ?_
    clear hK_
    refine WOps.yes rfl rfl (by simp (config := { decide := true }) only [getD_self, getD_ne, List.length_set, hl]) fun K_ hK_ => ?_
    simp (config := { decide := true }) only [WOne, calleeOf, axOp, ev, keep, okk_some, put, if_true, ofValue, getD_self, List.length_set, binA, intOp, decide_true, hl, hpos]
    refine hK_ _ ?_
    clear hK_
    refine WOps.cons rfl fun K_ hK_ => ?_
    simp (config := { decide := true }) only [WOne, calleeOf, axOp, ev, keep, okk_some, put, getD_self, getD_ne, List.length_set, hl]
    refine hK_ _ ?_
    clear hK_
    simp only [WOps]
    refine hK _ ?_
    clear hK
    refine W.cond (b := true) (by simp (config := { decide := true }) only [ev, getD_self, List.length_set, hl]) (fun _ => ?_) (fun h => by simp at h)
    have hc : ∃ cells len cap, b = .lst cells len cap ∧ cells.length = len * 4 ∧ 1 ≤ len ∧ len ≤ L ∧ ∀ i, i < len → CV l L n ((cells.drop (i * 4)).take 4) := by
      rcases h with h | ⟨ng', a', cells, len, cap, e, _, c2, c3, c4, c5⟩
      · obtain ⟨lv', g1, g2⟩ := h.level
        simp at g2
        omega
      · simp at e
        exact ⟨cells, len, cap, e.2.2.2, c2, c3, c4, c5⟩
    obtain ⟨cells, len, cap, rfl, c2, c3, c4, c5⟩ := hc
    have hfl := CV.flats c2 c5
    have hs : ∀ H, sliceA Tryz.prog H 27 (.lst cells len cap) none (some (.int .i64 0)) (some (.int .i64 0)) = some (.lst [] 0 (some 0)) := by
      intro H
      simp [sliceA, size29, bnds, natOr, asNat]
    have hA0 : (fun K : Heap => K[0]? = some (.cells [.int .i64 lv, .bool ng, a, .lst cells len cap])) [.cells [.int .i64 lv, .bool ng, a, .lst cells len cap]] := rfl
    refine W.seqk fun K hK => W.regionl (fun K : Heap => K[0]? = some (.cells [.int .i64 lv, .bool ng, a, .lst cells len cap])) true (by kernel_rfl) hA0 ?_
    have hAof : ∀ K : Heap, (K[0]? = some (.cells [.int .i64 lv, .bool ng, a, .lst cells len cap])) ∨ K = [.cells [.int .i64 lv, .bool ng, a, .lst cells len cap]] → K[0]? = some (.cells [.int .i64 lv, .bool ng, a, .lst cells len cap]) := by
      rintro K (h | rfl)
      · exact h
      · rfl
    refine WD.quiet rfl rfl (fun K_ hK_ => by
      have hA_ := hAof K_ (hK_.elim .inl fun e => .inr (by simpa using e))
      simp (config := { decide := true }) only [axOp, ev, keep, getD_self, getD_ne, et_P, addA, Nat.zero_add, size27, F29_2, hl]
      try exact rfl) rfl ?_
    refine WD.quiet rfl rfl (fun K_ hK_ => by
      have hA_ := hAof K_ (hK_.elim .inl fun e => .inr (by simpa using e))
      simp (config := { decide := true }) only [List.getElem?_cons_zero, List.getElem?_cons_succ, axOp, ev, keep, put, getD_self, List.length_set, et_P, loadA, readAt, agg27, hl, hA_]
      try exact rfl) rfl ?_
    refine WD.quiet rfl rfl (fun K_ hK_ => by
      have hA_ := hAof K_ (hK_.elim .inl fun e => .inr (by simpa using e))
      simp (config := { decide := true }) only [axOp, ev, keep, put, ofValue, getD_self, List.length_set, et_P, hl, optEv, hs]
      try exact rfl) rfl ?_
    refine WD.quiet rfl rfl (fun K_ hK_ => by
      have hA_ := hAof K_ (hK_.elim .inl fun e => .inr (by simpa using e))
      simp (config := { decide := true }) only [axOp, ev, keep, put, getD_self, getD_ne, et_P, addA, Nat.zero_add, size27, F29_2, hl]
      try exact rfl) rfl ?_
    refine WD.quiet rfl rfl (fun K_ hK_ => by
      have hA_ := hAof K_ (hK_.elim .inl fun e => .inr (by simpa using e))
      simp (config := { decide := true }) only [List.getElem?_cons_zero, List.getElem?_cons_succ, axOp, ev, keep, put, getD_self, List.length_set, et_P, loadA, readAt, agg27, hl, hA_]
      try exact rfl) rfl ?_
    refine WD.loud rfl rfl fun K_ hK_ => ?_
    simp (config := { decide := true }) only [WOne, calleeOf, axOp, ev, evs, okk_some, put, getD_self, getD_ne, List.length_set, et_P, hl, append_fresh c2 c3 (by omega) hfl]
    refine hK_ _ _ (fun _ => rfl) ?_
    clear hK_
    simp only [List.length_cons, List.length_nil, List.cons_append, List.nil_append, Nat.zero_add]
    refine WD.quiet (v := .sl 1 0 len 4 none) rfl rfl (fun K_ hK_ => by simp (config := { decide := true }) only [axOp, ev, keep, put, getD_self, List.length_set, hl]) rfl ?_
    simp only [WD]
    refine hK _ (W.ret ⟨.inr rfl, .sl 1 0 len 4 none, ?_, .lst cells len none, [1], ?_, len, c3, cells, none, rfl, c2, c4, c5⟩)
    · simp (config := { decide := true }) only [put, getD_self, List.length_set, resultsA, Tryz.results153, resultsL, hl]
    · rw [view_slflat (cs := cells) rfl (by omega) hfl, List.drop_zero, List.take_of_length_le (by omega)]
  · have hb1 : (lv == ((l + 1 : Nat) : Int)) = false := beq_eq_false_iff_ne.2 hlv
    refine WOps.cons rfl fun K_ hK_ => ?_
    simp (config := { decide := true }) only [WOne, calleeOf, axOp, ev, keep, okk_some, put, getD_self, getD_ne, et_P, addA, Nat.add_zero, size3, F29_0, hl]
    refine hK_ _ ?_
    clear hK_
    refine WOps.cons rfl fun K_ hK_ => ?_
    simp (config := { decide := true }) only [WOne, List.getElem?_cons_zero, calleeOf, axOp, ev, keep, okk_some, put, getD_self, List.length_set, et_P, loadA, readAt, agg3, hl]
    refine hK_ _ ?_
    clear hK_
    refine WOps.cons rfl fun K_ hK_ => ?_
    simp (config := { decide := true }) only [WOne, calleeOf, axOp, ev, keep, okk_some, put, getD_ne, h1]
    refine hK_ _ ?_
    clear hK_
    refine WOps.cons rfl fun K_ hK_ => ?_
    simp (config := { decide := true }) only [WOne, calleeOf, axOp, ev, keep, okk_some, put, if_true, getD_self, getD_ne, List.length_set, binA, intOp, hl, hb1]
    refine hK_ _ ?_
    clear hK_
    refine WOps.cons rfl fun K_ hK_ => ?_
    simp (config := { decide := true }) only [WOne, calleeOf, axOp, ev, keep, okk_some, put, getD_self, List.length_set, hl]
    refine hK_ _ ?_
    clear hK_
    refine WOps.no rfl rfl (by simp (config := { decide := true }) only [getD_self, List.length_set, Bool.not_true, hl]) ?_
    refine WOps.no rfl rfl (by simp (config := { decide := true }) only [put, getD_self, getD_ne, List.length_set, Bool.not_true, hl]) ?_
    refine WOps.cons rfl fun K_ hK_ => ?_
    simp (config := { decide := true }) only [WOne, calleeOf, axOp, ev, keep, okk_some, put, ofValue, getD_self, getD_ne, List.length_set, hl]
    refine hK_ _ ?_
    clear hK_
    simp only [WOps]
    refine hK _ ?_
    clear hK
    refine W.cond (b := false) (by simp (config := { decide := true }) only [ev, getD_self, List.length_set, hl]) (fun h => by simp at h) (fun _ => W.skip ?_)
    simp only [Th]
    refine hKs _ ?_
    clear hKs
    have hcv : CV l L n [.int .i64 lv, .bool ng, a, b] := by
      rcases h with h | ⟨ng', a', cells, len, cap, e, _⟩
      · exact h
      · simp at e
        exact absurd e.1 hlv
    refine W.seqk fun K hK => W.region ?_
    refine WOps.cons rfl fun K_ hK_ => ?_
    simp (config := { decide := true }) only [WOne, List.getElem?_cons_zero, calleeOf, axOp, ev, keep, okk_some, put, if_true, getD_self, getD_ne, size29, agg29, et_P, loadA, readAt, List.drop_zero, List.take_succ_cons, List.take_zero, List.length_cons, List.length_nil, Nat.zero_add, Nat.reduceAdd, Nat.reduceLeDiff, hl]
    refine hK_ _ ?_
    clear hK_
    refine WOps.cons rfl fun K_ hK_ => ?_
    simp (config := { decide := true }) only [WOne, calleeOf, axOp, ev, okk_some, put, if_true, getD_self, List.length_set, P27, size29, et_P, List.drop_succ_cons, List.drop_zero, List.take_zero, List.length_cons, List.length_nil, Nat.zero_add, Nat.reduceAdd, Nat.reduceLeDiff, newA, cells_agg, one_bool, one_int, List.all_cons, List.all_nil, Bool.and_self, zero29, List.cons_append, List.nil_append, List.append_nil, writeAt, evParts, fillA, hl, oa, ob, copies, Nat.zero_mul]
    refine hK_ _ ?_
    clear hK_
    refine WOps.cons rfl fun K_ hK_ => ?_
    simp (config := { decide := true }) only [WOne, calleeOf, axOp, ev, keep, okk_some, put, getD_self, List.length_set, hl]
    refine hK_ _ ?_
    clear hK_
    simp only [WOps]
    refine hK _ ?_
    clear hK
    refine W.ret ⟨.inr rfl, .sl 1 0 1 4 (some 1), ?_, .lst [.int .i64 lv, .bool ng, a, b] 1 (some 1), [1], ?_, 1, Nat.le_refl _, _, _, rfl, rfl, hL1, fun i hi => ?_⟩
    · simp (config := { decide := true }) only [getD_self, List.length_set, resultsA, Tryz.results153, resultsL, hl]
    · rw [view_slflat (cs := [.int .i64 lv, .bool ng, a, b]) rfl (by simp) hflat]
      rfl
    · have : i = 0 := by omega
      subst this
      exact hcv

theorem CV.level_unique {l l' L n : Nat} {cs : List AV} {x : Nat} (h : cs[0]? = some (.int .i64 x)) (h' : CV l L n cs) : x ≤ l := by
  obtain ⟨lv, h1, h2⟩ := h'.level
  rw [h] at h2
  simp at h2
  omega

theorem coefs_spec (l L n : Nat) (p : List AV) (h : CV (l + 1) L n p) (hL1 : 1 ≤ L) (hL : L ≤ 2 ^ 38) : Con 153 [.agg p, .int .i64 ((l + 1 : Nat) : Int)] (Spec 153 [.agg p, .int .i64 ((l + 1 : Nat) : Int)]) := by
  obtain ⟨L0, n0, ⟨h0, h01⟩, hL0, hn0, hmin⟩ := least2 (P := fun L n => CV (l + 1) L n p ∧ 1 ≤ L) (fun _ _ _ _ h h' => ⟨CV.inf h.1 h'.1, by omega⟩) ⟨h, hL1⟩
  refine (coefs_con l L0 n0 p h0 h01 (by omega)).imp fun r ⟨len, h1, h2⟩ l' L' n' hl hp h1' => ?_
  have hll : l' = l := by omega
  subst hll
  obtain ⟨m1, m2⟩ := hmin L' n' ⟨hp, h1'⟩
  exact ⟨len, h1, h2.mono m1 m2⟩

end Go.AX

/- AX, part 37: polynomials: lists of their own; scale. -/
set_option linter.unusedVariables false
set_option linter.unusedSimpArgs false
set_option maxRecDepth 4000
namespace Go.AX
open Go Go.RowKit Go.Proofs

theorem CV.cases {L n : Nat} : ∀ {l : Nat} {p : List AV}, CV l L n p → (∃ ng a b, p = [.int .i64 0, .bool ng, a, b] ∧ NV n a ∧ (b = .nilsl ∨ ∃ cap, b = .lst [] 0 cap)) ∨
    ∃ k, k + 1 ≤ l ∧ ∃ ng a cells len cap, p = [.int .i64 ((k + 1 : Nat) : Int), .bool ng, a, .lst cells len cap] ∧ NV n a ∧ cells.length = len * 4 ∧ 1 ≤ len ∧ len ≤ L ∧ ∀ i, i < len → CV k L n ((cells.drop (i * 4)).take 4)
  | 0, p, h => .inl h
  | l + 1, p, .inl h => by
    rcases CV.cases h with h | ⟨k, hk, h⟩
    · exact .inl h
    · exact .inr ⟨k, by omega, h⟩
  | l + 1, p, .inr h => .inr ⟨l, Nat.le_refl _, h⟩

theorem CV.down {l L n x : Nat} {p : List AV} (h : CV l L n p) (hx : p[0]? = some (.int .i64 x)) : CV x L n p := by
  rcases h.cases with ⟨ng, a, b, h1, h2, h3⟩ | ⟨k, hk, h4⟩
  · rw [h1] at hx
    simp at hx
    have : x = 0 := by omega
    subst this
    exact ⟨ng, a, b, h1, h2, h3⟩
  · obtain ⟨ng, a, cells, len, cap, e, r⟩ := h4
    have hx' := hx
    rw [e] at hx'
    simp at hx'
    have : x = k + 1 := by omega
    subst this
    exact .inr ⟨ng, a, cells, len, cap, e, r⟩

/-- Cells in groups of four. -/
def Grp (len : Nat) (P : List AV → Prop) (cs : List AV) : Prop := cs.length = len * 4 ∧ ∀ i, i < len → P ((cs.drop (i * 4)).take 4)

theorem Grp.set {len i : Nat} {P : List AV → Prop} {cs q : List AV} (h : Grp len P cs) (hi : i < len) (hq : P q) (hl : q.length = 4) : Grp len P (cs.take (i * 4) ++ (q ++ cs.drop (i * 4 + 4))) := by
  obtain ⟨h1, h2⟩ := h
  refine ⟨by simp [List.length_append, List.length_take, List.length_drop, hl]; omega, fun j hj => ?_⟩
  have htl : (cs.take (i * 4)).length = i * 4 := by rw [List.length_take]; omega
  by_cases hji : j = i
  · subst hji
    have : ((cs.take (j * 4) ++ (q ++ cs.drop (j * 4 + 4))).drop (j * 4)).take 4 = q := by
      rw [List.drop_left' htl, List.take_left' hl]
    rw [this]; exact hq
  · have : ((cs.take (i * 4) ++ (q ++ cs.drop (i * 4 + 4))).drop (j * 4)).take 4 = (cs.drop (j * 4)).take 4 := by
      refine List.ext_getElem? fun t => ?_
      by_cases ht : t < 4
      · rw [List.getElem?_take_of_lt ht, List.getElem?_take_of_lt ht, List.getElem?_drop, List.getElem?_drop]
        rcases Nat.lt_or_gt_of_ne hji with hlt | hgt
        · rw [List.getElem?_append_left (by omega), List.getElem?_take_of_lt (by omega)]
        · rw [List.getElem?_append_right (by omega), List.getElem?_append_right (by omega), List.getElem?_drop, htl, hl]
          congr 1
          omega
      · rw [List.getElem?_eq_none (by rw [List.length_take]; omega), List.getElem?_eq_none (by rw [List.length_take]; omega)]
    rw [this]; exact h2 j hj

theorem store29 {H : Heap} {id len i : Nat} {P : List AV → Prop} {cs q : List AV} (hc : H[id]? = some (.cells cs)) (h : Grp len P cs) (hi : i < len) (hq : P q) (hl : q.length = 4) (hf : ∀ c ∈ q, isFlat c = true) :
    ∃ cs', storeA Tryz.prog H 29 (.ptr id (0 + i * 4)) (.agg q) = some (H.set id (.cells cs')) ∧ Grp len P cs' := by
  refine ⟨_, ?_, h.set hi hq hl⟩
  have h1 := h.1
  have : i * 4 + 4 ≤ cs.length := by omega
  simp [storeA, hc, size29, AV.cells, hl, writeAt, this]
  exact fun c hc => one_flat (hf c hc)

theorem load29 {H : Heap} {id len i : Nat} {P : List AV → Prop} {cs : List AV} (hc : H[id]? = some (.cells cs)) (h : Grp len P cs) (hi : i < len) : loadA Tryz.prog H 29 (.ptr id (0 + i * 4)) = some (.agg ((cs.drop (i * 4)).take 4)) := by
  have h1 := h.1
  have : i * 4 + 4 ≤ cs.length := by omega
  simp [loadA, hc, readAt, agg29, size29, this]

theorem index29 {id len i : Nat} {cap : Option Nat} (hi : i < len) : indexAddrA Tryz.prog 27 (.sl id 0 len 4 cap) i = some (.ptr id (0 + i * 4)) := by
  simp [indexAddrA, size29, hi]

theorem copies_grp (P : List AV → Prop) (z : List AV) (hz : z.length = 4) (hp : P z) : ∀ n, Grp n P (copies n z)
  | 0 => ⟨by simp [copies], fun i hi => by omega⟩
  | n + 1 => by
    obtain ⟨h1, h2⟩ := copies_grp P z hz hp n
    refine ⟨by simp [copies, h1, hz]; omega, fun i hi => ?_⟩
    cases i with
    | zero =>
      have : ((copies (n + 1) z).drop (0 * 4)).take 4 = z := by
        simp only [copies, Nat.zero_mul, List.drop_zero]
        exact List.take_left' hz
      rw [this]; exact hp
    | succ i =>
      have : (copies (n + 1) z).drop ((i + 1) * 4) = (copies n z).drop (i * 4) := by
        simp only [copies]
        rw [show (i + 1) * 4 = z.length + i * 4 by omega, List.drop_append]
        simp
      rw [this]
      exact h2 i (by omega)

theorem zero_cv (l L n : Nat) : CV l L n [.int .i64 0, .bool false, .nilsl, .nilsl] := CV.up (l := 0) ⟨false, .nilsl, .nilsl, rfl, .inl rfl, .inl rfl⟩ (by omega)

theorem cv_len {l L n : Nat} {cs : List AV} (h : CV l L n cs) : cs.length = 4 := by
  obtain ⟨lv, ng, a, b, rfl, _⟩ := h.pv
  rfl

/-- A new block, filled at once. -/
theorem store_new {H : Heap} {z q : List AV} (hz : z.length = 4) (hl : q.length = 4) (hf : ∀ c ∈ q, isFlat c = true) : storeA Tryz.prog (H ++ [.cells z]) 29 (.ptr H.length 0) (.agg q) = some (H ++ [.cells q]) := by
  have h1 : (H ++ [Blk.cells z])[H.length]? = some (.cells z) := by simp
  have h2 : (q.all oneCell) = true := all_one_flat hf
  simp [storeA, size29, AV.cells, hl, writeAt, hz, h2]

theorem load_new {H : Heap} {q : List AV} (hl : q.length = 4) : loadA Tryz.prog (H ++ [.cells q]) 29 (.ptr H.length 0) = some (.agg q) := by
  have h1 : (H ++ [Blk.cells q])[H.length]? = some (.cells q) := by simp
  simp [loadA, readAt, agg29, size29, hl]
  exact List.take_of_length_le (by omega)

theorem iv_nv {k : Nat} {b : Bool} {x : AV} (h : IV k (.agg [.bool b, x])) : NV k x := by
  obtain ⟨ng, y, e, hy⟩ := h
  simp at e
  obtain ⟨_, rfl⟩ := e
  exact hy

theorem imul_spec (b1 b2 : Bool) (x y : AV) (k l : Nat) (hx : NV k x) (hy : NV l y) (hk : k ≤ 2 ^ 38) (hl : l ≤ 2 ^ 38) : Con 147 [.agg [.bool b1, x], .agg [.bool b2, y]] (Spec 147 [.agg [.bool b1, x], .agg [.bool b2, y]]) := by
  obtain ⟨i, hi, hik, him⟩ := nv_least hx
  obtain ⟨j, hj, hjk, hjm⟩ := nv_least hy
  refine (iMul_con b1 b2 x y i j hi hj (by omega) (by omega)).imp fun r ⟨ng, z, hr, hz⟩ k' l' h1 h2 => ⟨ng, z, hr, hz.mono ?_⟩
  have := him k' (iv_nv h1)
  have := hjm l' (iv_nv h2)
  omega

theorem iadd_spec (b1 b2 : Bool) (x y : AV) (k : Nat) (hx : NV k x) (hy : NV k y) (hk : k ≤ 2 ^ 38) : Con 146 [.agg [.bool b1, x], .agg [.bool b2, y]] (Spec 146 [.agg [.bool b1, x], .agg [.bool b2, y]]) := by
  obtain ⟨i, hi, hik, him⟩ := nv_least hx
  obtain ⟨j, hj, hjk, hjm⟩ := nv_least hy
  refine (iAdd_con b1 b2 x y (max i j) (hi.mono (Nat.le_max_left ..)) (hj.mono (Nat.le_max_right ..)) (by omega)).imp fun r ⟨ng, z, hr, hz⟩ k' h1 h2 => ⟨ng, z, hr, hz.mono ?_⟩
  have := him k' (iv_nv h1)
  have := hjm k' (iv_nv h2)
  omega

end Go.AX

/- AX, part 38: polynomials: scale. -/
set_option linter.unusedVariables false
set_option linter.unusedSimpArgs false
set_option maxRecDepth 4000
namespace Go.AX
open Go Go.RowKit Go.Proofs

theorem size29' : sizeT Tryz.prog 29 = some 4 := size29

theorem scale_spec_of {c2 : Bool} {y : AV} {l L n m : Nat} {q : List AV} (hq : CV l L n q) (hy : NV m y) (hL : L ≤ 2 ^ 37) (hn : n ≤ 2 ^ 37) (hm : m ≤ 2 ^ 37)
    (h : ∀ x L n m, x ≤ l → CV x L n q → NV m y → L ≤ 2 ^ 37 → n ≤ 2 ^ 37 → m ≤ 2 ^ 37 → Con 150 [.agg q, .agg [.bool c2, y]] (fun r => ∃ cs, r = .agg cs ∧ CV x L (n + m) cs)) : Con 150 [.agg q, .agg [.bool c2, y]] (Spec 150 [.agg q, .agg [.bool c2, y]]) := by
  obtain ⟨x, hx, hx0⟩ := hq.level
  obtain ⟨L0, n0, h0, hL0, hn0, hmin⟩ := least2 (P := fun L n => CV x L n q) (fun _ _ _ _ => CV.inf) (hq.down hx0)
  obtain ⟨m0, hm0, hmm, hmmin⟩ := nv_least hy
  refine (h x L0 n0 m0 hx h0 hm0 (by omega) (by omega) (by omega)).imp fun r ⟨cs, e, hcs⟩ l' L' n' m' h1 h2 => ⟨cs, e, ?_⟩
  obtain ⟨k1, k2⟩ := hmin L' n' (h1.down hx0)
  have k3 := hmmin m' (iv_nv h2)
  exact CV.up (CV.mono k1 (by omega) hcs) (CV.level_unique (l := l') (l' := 0) hx0 h1)

theorem scale_con (c2 : Bool) (y : AV) : ∀ (l L n m : Nat) (p : List AV), CV l L n p → NV m y → L ≤ 2 ^ 37 → n ≤ 2 ^ 37 → m ≤ 2 ^ 37 → Con 150 [.agg p, .agg [.bool c2, y]] (fun r => ∃ cs, r = .agg cs ∧ CV l L (n + m) cs) := by
  intro l
  induction l using Nat.strongRecOn with
  | _ l ih =>
  intro L n m p hp hy hL hn hm
  have hcs := hp.cases
  obtain ⟨lv, ng, a, b, rfl, ha, hb⟩ := hp.pv
  have oa := one_nv ha
  have ob := one_flat hb
  have oy := one_nv hy
  refine con_of Tryz.func150 rfl ?_
  show W ET _ _ ⟨[.agg [.int .i64 lv, .bool ng, a, b], .agg [.bool c2, y]] ++ List.replicate 37 .undef, []⟩
  generalize hT : [.agg [.int .i64 lv, .bool ng, a, b], .agg [.bool c2, y]] ++ List.replicate 37 AV.undef = T
  have hl : T.length = 39 := by subst hT; rfl
  have h0 : T.getD 0 .undef = .agg [.int .i64 lv, .bool ng, a, b] := by subst hT; rfl
  have h1 : T.getD 1 .undef = .agg [.bool c2, y] := by subst hT; rfl
  clear hT
  refine W.seqk fun K hK => W.region ?_
  refine WOps.cons rfl fun K_ hK_ => ?_
  simp (config := { decide := true }) only [WOne, calleeOf, axOp, ev, okk_some, put, if_true, List.length_nil, newA, cells_agg, one_bool, one_int, List.all_cons, List.all_nil, Bool.and_self, List.nil_append, h0, oa, ob]
  refine hK_ _ ?_
  clear hK_
  refine WOps.cons rfl fun K_ hK_ => ?_
  simp (config := { decide := true }) only [WOne, calleeOf, axOp, ev, okk_some, put, if_true, getD_ne, List.length_cons, List.length_nil, Nat.zero_add, newA, cells_agg, one_bool, List.all_cons, List.all_nil, Bool.and_self, List.cons_append, List.nil_append, h1, oy]
  refine hK_ _ ?_
  clear hK_
  refine WOps.cons rfl fun K_ hK_ => ?_
  simp (config := { decide := true }) only [WOne, calleeOf, axOp, okk_some, put, if_true, et_P, List.length_cons, List.length_nil, Nat.zero_add, Nat.reduceAdd, newA, cells_agg, zero29, List.cons_append, List.nil_append]
  refine hK_ _ ?_
  clear hK_
  simp only [WOps]
  refine hK _ ?_
  clear hK
  refine W.seqk fun Ks hKs => ?_
  refine W.seqk fun K hK => W.region ?_
  refine WOps.cons rfl fun K_ hK_ => ?_
  simp (config := { decide := true }) only [WOne, calleeOf, axOp, ev, keep, okk_some, put, getD_self, getD_ne, et_P, addA, Nat.add_zero, size3, F29_0, hl]
  refine hK_ _ ?_
  clear hK_
  refine WOps.cons rfl fun K_ hK_ => ?_
  simp (config := { decide := true }) only [WOne, List.getElem?_cons_zero, calleeOf, axOp, ev, keep, okk_some, put, getD_self, List.length_set, et_P, loadA, readAt, agg3, hl]
  refine hK_ _ ?_
  clear hK_
  refine WOps.cons rfl fun K_ hK_ => ?_
  simp (config := { decide := true }) only [WOne, calleeOf, axOp, ev, keep, okk_some, put, if_true, ofValue, getD_self, List.length_set, binA, intOp, hl]
  refine hK_ _ ?_
  clear hK_
  simp only [WOps]
  refine hK _ ?_
  clear hK
  rcases hcs with ⟨ng', a', b', e, ha', hb'⟩ | ⟨k, hk, ng', a', cells, len, cap, e, ha', e2, e3, e4, e5⟩
  · simp at e
    obtain ⟨rfl, rfl, rfl, rfl⟩ := e
    refine W.cond (b := true) (by simp (config := { decide := true }) only [ev, getD_self, List.length_set, beq_self_eq_true, hl]) (fun _ => ?_) (fun h => by simp at h)
    refine W.seqk fun K hK => W.region ?_
    refine WOps.cons rfl fun K_ hK_ => ?_
    simp (config := { decide := true }) only [WOne, calleeOf, axOp, ev, keep, okk_some, put, getD_self, getD_ne, size26, et_P, beq_self_eq_true, addA, Nat.zero_add, F29_1, hl]
    refine hK_ _ ?_
    clear hK_
    refine WOps.cons rfl fun K_ hK_ => ?_
    simp (config := { decide := true }) only [WOne, List.getElem?_cons_zero, calleeOf, axOp, ev, keep, okk_some, put, if_true, getD_self, List.length_set, size26, agg26, et_P, loadA, readAt, List.drop_succ_cons, List.drop_zero, List.take_succ_cons, List.take_zero, List.length_cons, List.length_nil, Nat.zero_add, Nat.reduceAdd, Nat.reduceLeDiff, hl]
    refine hK_ _ ?_
    clear hK_
    refine WOps.cons rfl fun K_ hK_ => ?_
    simp (config := { decide := true }) only [WOne, List.getElem?_cons_zero, List.getElem?_cons_succ, calleeOf, axOp, ev, keep, okk_some, put, if_true, getD_self, getD_ne, List.length_set, size26, agg26, et_P, loadA, readAt, List.drop_zero, List.take_succ_cons, List.take_zero, List.length_cons, List.length_nil, Nat.zero_add, Nat.reduceAdd, Nat.reduceLeDiff, hl]
    refine hK_ _ ?_
    clear hK_
    refine WOps.cons rfl fun K_ hK_ => ?_
    simp (config := { decide := true }) only [WOne, calleeOf, ev, evs, put, getD_self, getD_ne, List.length_set, hl]
    refine call_known (by decide) (viewL_two (view_iv ha _ _) (view_iv hy _ _)) (imul_spec ng c2 a y n m ha hy (by omega) (by omega)) fun z hz => ?_
    simp only [AX.kill, List.append_nil]
    refine hK_ _ ?_
    clear hK_
    obtain ⟨zb, z, rfl, hzv⟩ := hz n m ⟨ng, a, rfl, ha⟩ ⟨c2, y, rfl, hy⟩
    have oz := one_nv hzv
    refine WOps.cons rfl fun K_ hK_ => ?_
    simp (config := { decide := true }) only [WOne, List.getElem?_cons_zero, List.getElem?_cons_succ, calleeOf, axOp, ev, keep, okk_some, put, if_true, getD_self, List.length_set, Option.map_some, et_P, List.drop_succ_cons, List.drop_zero, List.take_succ_cons, List.take_zero, List.length_cons, List.length_nil, Nat.zero_add, Nat.reduceAdd, Nat.reduceLeDiff, cells_agg, zero29, List.cons_append, List.nil_append, writeAt, evParts, fillA, Tryz.underlying29, PL29, hl]
    refine hK_ _ ?_
    clear hK_
    refine WOps.cons rfl fun K_ hK_ => ?_
    simp (config := { decide := true }) only [WOne, List.getElem?_cons_zero, List.getElem?_cons_succ, calleeOf, axOp, ev, okk_some, put, if_true, getD_self, getD_ne, List.length_set, size29, et_P, decide_true, List.drop_succ_cons, List.drop_zero, List.take_zero, List.length_cons, List.length_nil, Nat.zero_add, Nat.reduceAdd, Nat.reduceLeDiff, cells_agg, one_bool, one_int, one_nilsl, List.all_cons, List.all_nil, Bool.and_self, List.nil_append, List.append_nil, storeA, writeAt, List.set_cons_zero, List.set_cons_succ, hl, oz]
    refine hK_ _ ?_
    clear hK_
    simp only [WOps]
    refine hK _ ?_
    clear hK
    have hcv : CV l L (n + m) [.int .i64 0, .bool zb, z, .nilsl] := CV.up (l := 0) ⟨zb, z, .nilsl, rfl, hzv, .inl rfl⟩ (by omega)
    refine W.ret ⟨.inr rfl, .agg [.int .i64 0, .bool zb, z, .nilsl], ?_, _, [], view_cv hcv _, _, rfl, hcv⟩
    simp (config := { decide := true }) only [List.getElem?_cons_zero, List.getElem?_cons_succ, if_true, getD_self, getD_ne, List.length_set, size29, agg29, loadA, readAt, List.drop_zero, List.take_succ_cons, List.take_zero, List.length_cons, List.length_nil, Nat.zero_add, Nat.reduceAdd, Nat.reduceLeDiff, resultsA, Tryz.results150, resultsL, hl]
  · simp at e
    obtain ⟨rfl, rfl, rfl, rfl⟩ := e
    have hb0 : (((k : Int) + 1) == 0) = false := by simp; omega
    refine W.cond (b := false) (by simp (config := { decide := true }) only [ev, getD_self, List.length_set, hl, hb0]) (fun h => by simp at h) (fun _ => W.skip ?_)
    simp only [Th]
    refine hKs _ ?_
    clear hKs
    clear h0 hb0
    have hflat := CV.flats e2 e5
    have hroom : (len * 64 ≤ roomA) = True := by simp only [eq_iff_iff, iff_true]; unfold roomA; omega
    refine W.seqk fun K hK => W.region ?_
    refine WOps.cons rfl fun K_ hK_ => ?_
    simp (config := { decide := true }) only [WOne, calleeOf, axOp, ev, keep, okk_some, put, getD_self, getD_ne, et_P, addA, Nat.zero_add, size27, F29_2, hl]
    refine hK_ _ ?_
    clear hK_
    refine WOps.cons rfl fun K_ hK_ => ?_
    simp (config := { decide := true }) only [WOne, List.getElem?_cons_zero, List.getElem?_cons_succ, calleeOf, axOp, ev, keep, okk_some, put, getD_self, List.length_set, et_P, loadA, readAt, agg27, hl]
    refine hK_ _ ?_
    clear hK_
    refine WOps.cons rfl fun K_ hK_ => ?_
    simp (config := { decide := true }) only [WOne, calleeOf, axOp, ev, evs, okk_some, put, getD_self, List.length_set, builtinA, P27, et_P, hl]
    refine hK_ _ ?_
    clear hK_
    refine WOps.cons rfl fun K_ hK_ => ?_
    simp (config := { decide := true }) only [WOne, calleeOf, axOp, ev, okk_some, put, if_true, getD_self, List.length_set, P27, size29, et_P, decide_true, hl, asNat_nat, bytes29, zero29, hroom, cells_agg, one_int, one_bool, one_nilsl, List.all_cons, List.all_nil, Nat.le_refl, Bool.and_self, List.length_cons, List.length_nil, List.nil_append, Nat.zero_add, Nat.reduceAdd, List.cons_append]
    refine hK_ _ ?_
    clear hK_
    have hgrp := copies_grp (CV k L (n + m)) [.int .i64 0, .bool false, .nilsl, .nilsl] rfl (zero_cv _ _ _) len
    generalize copies len [AV.int .i64 0, .bool false, .nilsl, .nilsl] = out at hgrp ⊢
    refine WOps.cons rfl fun K_ hK_ => ?_
    simp (config := { decide := true }) only [WOne, calleeOf, axOp, ev, keep, okk_some, put, getD_self, List.length_set, hl]
    refine hK_ _ ?_
    clear hK_
    simp only [WOps]
    refine hK _ ?_
    clear hK
    refine W.seqk fun K1 hK1 => ?_
    refine W.seqk fun K hK => W.region ?_
    refine WOps.cons rfl fun K_ hK_ => ?_
    simp (config := { decide := true }) only [WOne, calleeOf, axOp, ev, keep, okk_some, put, getD_self, getD_ne, et_P, addA, Nat.zero_add, size27, F29_2, hl]
    refine hK_ _ ?_
    clear hK_
    refine WOps.cons rfl fun K_ hK_ => ?_
    simp (config := { decide := true }) only [WOne, List.getElem?_cons_zero, List.getElem?_cons_succ, calleeOf, axOp, ev, keep, okk_some, put, getD_self, List.length_set, et_P, loadA, readAt, agg27, hl]
    refine hK_ _ ?_
    clear hK_
    refine WOps.cons rfl fun K_ hK_ => ?_
    simp (config := { decide := true }) only [WOne, calleeOf, axOp, ev, evs, okk_some, put, getD_self, List.length_set, builtinA, P27, et_P, hl]
    refine hK_ _ ?_
    clear hK_
    refine WOps.cons rfl fun K_ hK_ => ?_
    simp (config := { decide := true }) only [WOne, calleeOf, axOp, ev, keep, okk_some, put, ofValue]
    refine hK_ _ ?_
    clear hK_
    simp only [WOps]
    refine hK _ ?_
    clear hK
    refine W.block (W.loop (fun j s => ∃ out, s.H[0]? = some (.cells [.int .i64 ((k : Int) + 1), .bool ng, a, .lst cells len cap]) ∧ s.H[1]? = some (.cells [.bool c2, y]) ∧ s.H[2]? = some (.cells [.int .i64 0, .bool false, .nilsl, .nilsl]) ∧ s.H[3]? = some (.cells out) ∧ 4 ≤ s.H.length ∧ Grp len (CV k L (n + m)) out ∧
      s.T.length = 39 ∧ s.T.getD 2 .undef = .ptr 0 0 ∧ s.T.getD 3 .undef = .ptr 1 0 ∧ s.T.getD 4 .undef = .ptr 2 0 ∧ s.T.getD 5 .undef = .sl 3 0 len 4 (some len) ∧ s.T.getD 21 .undef = .lst cells len cap ∧ s.T.getD 22 .undef = .int .i64 len ∧ ∃ i : Nat, i + j = len ∧ s.T.getD 23 .undef = .int .i64 i) (n := len) ?_ ?_)
    · refine ⟨out, rfl, rfl, rfl, rfl, by simp, hgrp, ?_, ?_, ?_, ?_, ?_, ?_, ?_, 0, Nat.zero_add _, ?_⟩ <;> simp (config := { decide := true }) only [getD_self, getD_ne, List.length_set, hl, Int.natCast_zero]
    · clear hl h1 hgrp
      rintro j ⟨T', H'⟩ ⟨out, H0, H1, H2, H3, H4, hgrp, hl', h2', h3', h4', h5', h21, h22, i, hij, h23⟩
      simp only at H0 H1 H2 H3 H4 hl' h2' h3' h4' h5' h21 h22 h23
      by_cases hlt : i < len
      · have hb1 : ((i : Int) < (len : Int)) = True := by simp [hlt]
        have hw1 : IntKind.i64.wrap ((i : Int) + 1) = ((i + 1 : Nat) : Int) := by rw [wrapN] <;> omega
        refine W.seqk fun K hK => W.region ?_
        refine WOps.cons rfl fun K_ hK_ => ?_
        simp (config := { decide := true }) only [WOne, calleeOf, axOp, ev, keep, okk_some, put, if_true, binA, intOp, decide_true, h22, h23, hb1]
        refine hK_ _ ?_
        clear hK_
        simp only [WOps]
        refine hK _ ?_
        clear hK
        refine W.seqk fun K hK => W.cond (b := true) (by simp (config := { decide := true }) only [ev, getD_self, hl']) (fun _ => ?_) (fun h => by simp at h)
        refine W.skip (hK _ ?_)
        clear hK
        refine W.seqk fun K2 hK2 => W.block ?_
        have hq := e5 i hlt
        generalize hqe : (cells.drop (i * 4)).take 4 = q at hq
        have hq4 := cv_len hq
        have hqf := pv_flat hq.pv
        have hld := fun H => load29c (H := H) hlt e2 hqe
        refine W.seqk fun K hK => W.region ?_
        refine WOps.cons rfl fun K_ hK_ => ?_
        simp (config := { decide := true }) only [WOne, calleeOf, axOp, ev, keep, okk_some, put, getD_ne, h23]
        refine hK_ _ ?_
        clear hK_
        refine WOps.cons rfl fun K_ hK_ => ?_
        simp (config := { decide := true }) only [WOne, calleeOf, axOp, ev, keep, okk_some, put, getD_ne, Option.bind_some, et_P, h21, h23, asNat_nat, idx27 (cap := cap) hlt e2]
        refine hK_ _ ?_
        clear hK_
        refine WOps.cons rfl fun K_ hK_ => ?_
        simp (config := { decide := true }) only [WOne, calleeOf, axOp, ev, keep, okk_some, put, getD_self, List.length_set, et_P, hl', hld]
        refine hK_ _ ?_
        clear hK_
        refine WOps.cons rfl fun K_ hK_ => ?_
        simp (config := { decide := true }) only [WOne, calleeOf, axOp, okk_some, put, if_true, et_P, newA, cells_agg, zero29]
        refine hK_ _ ?_
        clear hK_
        refine WOps.cons rfl fun K_ hK_ => ?_
        simp (config := { decide := true }) only [WOne, calleeOf, axOp, ev, keep, okk_some, put, getD_self, getD_ne, List.length_set, hl']
        refine hK_ _ ?_
        clear hK_
        refine WOps.cons rfl fun K_ hK_ => ?_
        simp (config := { decide := true }) only [WOne, calleeOf, axOp, ev, okk_some, put, getD_self, getD_ne, List.length_set, et_P, hl', store_new (z := [.int .i64 0, .bool false, .nilsl, .nilsl]) rfl hq4 hqf]
        refine hK_ _ ?_
        clear hK_
        simp only [WOps]
        refine hK _ ?_
        clear hK
        have H1' : (H' ++ [Blk.cells q])[1]? = some (.cells [.bool c2, y]) := by rw [List.getElem?_append_left (by omega)]; exact H1
        have H3' : (H' ++ [Blk.cells q])[3]? = some (.cells out) := by rw [List.getElem?_append_left (by omega)]; exact H3
        have ld26 : loadA Tryz.prog (H' ++ [Blk.cells q]) 26 (.ptr 1 0) = some (.agg [.bool c2, y]) := by simp [loadA, H1', readAt, agg26, size26]
        refine W.region ?_
        refine WOps.cons rfl fun K_ hK_ => ?_
        simp (config := { decide := true }) only [WOne, calleeOf, axOp, ev, keep, okk_some, put, getD_ne, h5']
        refine hK_ _ ?_
        clear hK_
        refine WOps.cons rfl fun K_ hK_ => ?_
        simp (config := { decide := true }) only [WOne, calleeOf, axOp, ev, keep, okk_some, put, getD_self, getD_ne, List.length_set, hl']
        refine hK_ _ ?_
        clear hK_
        refine WOps.cons rfl fun K_ hK_ => ?_
        simp (config := { decide := true }) only [WOne, calleeOf, axOp, ev, keep, okk_some, put, getD_self, getD_ne, List.length_set, et_P, hl', load_new hq4]
        refine hK_ _ ?_
        clear hK_
        refine WOps.cons rfl fun K_ hK_ => ?_
        simp (config := { decide := true }) only [WOne, calleeOf, axOp, ev, keep, okk_some, put, getD_ne, et_P, h3', ld26]
        refine hK_ _ ?_
        clear hK_
        have hrec : Con 150 [.agg q, .agg [.bool c2, y]] (Spec 150 [.agg q, .agg [.bool c2, y]]) := by
          exact scale_spec_of hq hy hL hn hm fun x L n m hx h1 h2 h3 h4 h5 => ih x (by omega) L n m q h1 h2 h3 h4 h5
        refine WOps.cons rfl fun K_ hK_ => ?_
        simp (config := { decide := true }) only [WOne, calleeOf, ev, evs, put, getD_self, getD_ne, List.length_set, hl']
        refine call_known (by decide) (viewL_two (view_cv hq _) (view_iv hy _ _)) (hrec) fun z hz => ?_
        simp only [AX.kill, List.append_nil]
        refine hK_ _ ?_
        clear hK_
        obtain ⟨zc, rfl, hzv⟩ := hz k L n m hq ⟨c2, y, rfl, hy⟩
        obtain ⟨out', st', hgrp'⟩ := store29 H3' hgrp hlt hzv (cv_len hzv) (pv_flat hzv.pv)
        refine WOps.cons rfl fun K_ hK_ => ?_
        simp (config := { decide := true }) only [WOne, calleeOf, axOp, ev, keep, okk_some, put, getD_self, getD_ne, List.length_set, Option.bind_some, et_P, hl', asNat_nat, index29 (id := 3) (cap := some len) hlt]
        refine hK_ _ ?_
        clear hK_
        refine WOps.cons rfl fun K_ hK_ => ?_
        simp (config := { decide := true }) only [WOne, calleeOf, axOp, ev, okk_some, put, getD_self, getD_ne, List.length_set, et_P, hl', st']
        refine hK_ _ ?_
        clear hK_
        simp only [WOps, Th, outOf]
        refine hK2 _ (W.region ?_)
        clear hK2
        refine WOps.cons rfl fun K_ hK_ => ?_
        simp (config := { decide := true }) only [WOne, calleeOf, axOp, ev, keep, okk_some, put, if_true, ofValue, getD_ne, binA, intOp, h23, hw1]
        refine hK_ _ ?_
        clear hK_
        refine WOps.cons rfl fun K_ hK_ => ?_
        simp (config := { decide := true }) only [WOne, calleeOf, axOp, ev, keep, okk_some, put, getD_self, List.length_set, hl']
        refine hK_ _ ?_
        clear hK_
        simp only [WOps, Th]
        have keep : ∀ x, x ≠ 3 → x < 4 → ((H' ++ [Blk.cells q]).set 3 (.cells out'))[x]? = H'[x]? := by
          intro x hx hx4
          rw [List.getElem?_set_ne (Ne.symm hx), List.getElem?_append_left (by omega)]
        refine ⟨len - (i + 1), by omega, out', by rw [keep 0 (by decide) (by decide)]; exact H0, by rw [keep 1 (by decide) (by decide)]; exact H1, by rw [keep 2 (by decide) (by decide)]; exact H2, by rw [List.getElem?_set_self (by simp; omega)], by simp; omega, hgrp', ?_, ?_, ?_, ?_, ?_, ?_, ?_, i + 1, by omega, ?_⟩ <;> simp (config := { decide := true }) only [getD_self, getD_ne, List.length_set, hl', h2', h3', h4', h5', h21, h22]
      · have hb1 : ((i : Int) < (len : Int)) = False := by simp; omega
        refine W.seqk fun K hK => W.region ?_
        refine WOps.cons rfl fun K_ hK_ => ?_
        simp (config := { decide := true }) only [WOne, calleeOf, axOp, ev, keep, okk_some, put, if_true, binA, intOp, decide_false, h22, h23, hb1]
        refine hK_ _ ?_
        clear hK_
        simp only [WOps]
        refine hK _ ?_
        clear hK
        refine W.seqk fun K hK => W.cond (b := false) (by simp (config := { decide := true }) only [ev, getD_self, hl']) (fun h => by simp at h) (fun _ => W.exit ?_)
        simp only [Th, outOf, if_true]
        refine hK1 _ ?_
        clear hK1
        have ld3 : loadA Tryz.prog H' 3 (.ptr 0 (0 + 0)) = some (.int .i64 ((k + 1 : Nat) : Int)) := by simp [loadA, H0, readAt, agg3]
        refine W.seqk fun K hK => W.region ?_
        refine WOps.cons rfl fun K_ hK_ => ?_
        simp (config := { decide := true }) only [WOne, calleeOf, axOp, ev, keep, okk_some, put, getD_ne, et_P, h2', F29_0, size3, addA]
        refine hK_ _ ?_
        clear hK_
        refine WOps.cons rfl fun K_ hK_ => ?_
        simp (config := { decide := true }) only [WOne, calleeOf, axOp, ev, keep, okk_some, put, getD_self, List.length_set, et_P, hl', ld3]
        refine hK_ _ ?_
        clear hK_
        refine WOps.cons rfl fun K_ hK_ => ?_
        simp (config := { decide := true }) only [WOne, calleeOf, axOp, ev, keep, okk_some, put, getD_ne, h5']
        refine hK_ _ ?_
        clear hK_
        have hpl : PL k L (n + m) (.lst out len (some len)) len := ⟨out, some len, rfl, hgrp.1, e4, hgrp.2⟩
        have hvw : view H' depthA (.sl 3 0 len 4 (some len)) = some (.lst out len (some len), [3]) := by
          have := hgrp.1
          rw [view_slflat (cs := out) H3 (by omega) (CV.flats hgrp.1 hgrp.2), List.drop_zero, List.take_of_length_le (by omega)]
        refine WOps.cons rfl fun K_ hK_ => ?_
        simp (config := { decide := true }) only [WOne, calleeOf, ev, evs, put, getD_self, getD_ne, List.length_set, hl']
        refine call_known (by decide) (viewL_two (a := .int .i64 ((k + 1 : Nat) : Int)) (ids := []) rfl hvw) (join_spec k L (n + m) len _ hpl (by omega) (by omega)) fun z hz => ?_
        simp only [AX.kill, List.nil_append]
        refine hK_ _ ?_
        clear hK_
        obtain ⟨zc, rfl, hzv⟩ := hz k L (n + m) len rfl hpl
        have hz4 := cv_len hzv
        have hzf := pv_flat hzv.pv
        have st2 : storeA Tryz.prog (H'.set 3 .dead) 29 (.ptr 2 0) (.agg zc) = some ((H'.set 3 .dead).set 2 (.cells zc)) := by
          have h2 : (H'.set 3 .dead)[2]? = some (.cells [.int .i64 0, .bool false, .nilsl, .nilsl]) := by rw [List.getElem?_set_ne (by decide)]; exact H2
          simp [storeA, h2, size29, AV.cells, hz4, writeAt, all_one_flat hzf]
        refine WOps.cons rfl fun K_ hK_ => ?_
        simp (config := { decide := true }) only [WOne, calleeOf, axOp, ev, okk_some, put, getD_self, getD_ne, List.length_set, et_P, hl', h4', st2]
        refine hK_ _ ?_
        clear hK_
        simp only [WOps]
        refine hK _ ?_
        clear hK
        have hcv : CV l L (n + m) zc := hzv.up hk
        have ldr : loadA Tryz.prog ((H'.set 3 .dead).set 2 (.cells zc)) 29 (.ptr 2 0) = some (.agg zc) := by
          have h2 : ((H'.set 3 Blk.dead).set 2 (.cells zc))[2]? = some (.cells zc) := by rw [List.getElem?_set_self (by simp; omega)]
          simp [loadA, h2, readAt, agg29, size29, hz4]
          exact List.take_of_length_le (by omega)
        refine W.ret ⟨.inr rfl, .agg zc, ?_, _, [], view_cv hcv _, zc, rfl, hcv⟩
        simp (config := { decide := true }) only [getD_ne, resultsA, Tryz.results150, resultsL, h4', ldr]

end Go.AX
