/- AX, part 16: regions of open order: what an operation looks at; what must go before. -/
import Derived.Test.YtkkdpjmefjampaaGreatA2
set_option linter.unusedVariables false
set_option linter.unusedSimpArgs false
namespace Go.AX
open Go Go.RowKit

/-! ### Equality of abstract values -/

mutual
theorem AV.beq_eq : ∀ (a b : AV), AV.beq a b = true → a = b
  | .bool a, b, h => by cases b <;> simp_all [AV.beq]
  | .int k a, b, h => by cases b <;> simp_all [AV.beq]
  | .str s, b, h => by
    cases b <;> simp only [AV.beq, Bool.false_eq_true] at h
    rw [of_decide_eq_true h]
  | .nilptr, b, h => by cases b <;> simp_all [AV.beq]
  | .ptr i o, b, h => by cases b <;> simp_all [AV.beq]
  | .cptr a, b, h => by
    cases b <;> simp only [AV.beq, Bool.false_eq_true] at h
    rw [AV.beqL_eq _ _ h]
  | .nilsl, b, h => by cases b <;> simp_all [AV.beq]
  | .sl i o l s c, b, h => by cases b <;> simp_all [AV.beq]
  | .lst a l c, b, h => by
    cases b <;> simp only [AV.beq, Bool.false_eq_true] at h
    simp only [Bool.and_eq_true, beq_iff_eq] at h
    rw [AV.beqL_eq _ _ h.1.1, h.1.2, h.2]
  | .func f a b, c, h => by
    cases c <;> simp only [AV.beq, Bool.false_eq_true] at h
    simp only [Bool.and_eq_true, decide_eq_true_eq] at h
    rw [AV.beqL_eq _ _ h.1.2, AV.beqL_eq _ _ h.2, h.1.1]
  | .nilfunc, b, h => by cases b <;> simp_all [AV.beq]
  | .iface t v, b, h => by
    cases b <;> simp only [AV.beq, Bool.false_eq_true] at h
    simp only [Bool.and_eq_true, beq_iff_eq] at h
    rw [AV.beq_eq _ _ h.2, h.1]
  | .nilif, b, h => by cases b <;> simp_all [AV.beq]
  | .agg a, b, h => by
    cases b <;> simp only [AV.beq, Bool.false_eq_true] at h
    rw [AV.beqL_eq _ _ h]
  | .tup a, b, h => by
    cases b <;> simp only [AV.beq, Bool.false_eq_true] at h
    rw [AV.beqL_eq _ _ h]
theorem AV.beqL_eq : ∀ (a b : List AV), AV.beqL a b = true → a = b
  | [], [], _ => rfl
  | [], b :: bs, h => by simp [AV.beqL] at h
  | a :: as, [], h => by simp [AV.beqL] at h
  | a :: as, b :: bs, h => by
    simp only [AV.beqL, Bool.and_eq_true] at h
    rw [AV.beq_eq a b h.1, AV.beqL_eq as bs h.2]
end

/-! ### What is looked at -/

theorem evs_congr {T T' : List AV} : ∀ (xs : List Operand), (∀ x ∈ xs, ev T x = ev T' x) → evs T xs = evs T' xs
  | [], _ => rfl
  | x :: xs, h => by simp only [evs]; rw [h x (by simp), evs_congr xs (fun y hy => h y (by simp [hy]))]

theorem evParts_congr {T T' : List AV} : ∀ (xs : List (Nat × Operand)), (∀ x ∈ xs, ev T x.2 = ev T' x.2) → evParts T xs = evParts T' xs
  | [], _ => rfl
  | (i, x) :: xs, h => by simp only [evParts]; rw [h (i, x) (by simp), evParts_congr xs (fun y hy => h y (by simp [hy]))]

theorem optEv_congr {T T' : List AV} (x : Option Operand) (h : ∀ y, x = some y → ev T y = ev T' y) : optEv T x = optEv T' x := by
  cases x with
  | none => rfl
  | some y => simp only [optEv]; rw [h y rfl]

theorem axOp_congr {E : Env} {R : Rec} {T T' : List AV} {H : Heap} {o : Oper} (h : ∀ x ∈ o.op.operands, ev T x = ev T' x) : axOp E R T H o = axOp E R T' H o := by
  obtain ⟨dst, op, type, pos, after, guard⟩ := o
  cases op
  case build t ps =>
    simp only [axOp]
    rw [evParts_congr ps.toList (fun x hx => h x.2 (by simp [Op.operands]; exact ⟨x.1, by simpa using hx⟩))]
  case buildSlice t n ps =>
    simp only [axOp]
    rw [evParts_congr ps.toList (fun x hx => h x.2 (by simp [Op.operands]; exact ⟨x.1, by simpa using hx⟩))]
  case makeFunc fn first captured =>
    simp only [axOp]
    rw [evs_congr first.toList (fun x hx => h x (by simp [Op.operands]; exact .inl (by simpa using hx))), evs_congr captured.toList (fun x hx => h x (by simp [Op.operands]; exact .inr (by simpa using hx)))]
  case slice t x lo hi mx =>
    simp only [axOp]
    rw [h x (by simp [Op.operands]), optEv_congr lo (fun y hy => h y (by simp [Op.operands, hy])), optEv_congr hi (fun y hy => h y (by simp [Op.operands, hy])), optEv_congr mx (fun y hy => h y (by simp [Op.operands, hy]))]
  case call c =>
    obtain ⟨callee, args, ats⟩ := c
    simp only [axOp]
    rw [evs_congr args.toList (fun x hx => h x (by
      have hx' : x ∈ args := by simpa using hx
      cases callee <;> simp [Op.operands, Call.operands, hx']))]
    cases callee with
    | value f => simp only; rw [h f (by simp [Op.operands, Call.operands])]
    | invoke r m => rfl
    | builtin b => rfl
  all_goals first
    | rfl
    | (simp only [Op.operands] at h; simp only [axOp]; simp_all; done)

theorem ev_of_get {T T' : List AV} {x : Operand} (h : ∀ t, x = .tmp t → T[t]? = T'[t]?) : ev T x = ev T' x := by
  cases x with
  | tmp t => simp only [ev, List.getD, h t rfl]
  | const v => rfl
  | global g => rfl
  | func f => rfl

theorem axOne_congr {E : Env} {R : Rec} {T T' : List AV} {H : Heap} {ops : List Oper} {o : Oper} (h : ∀ t ∈ looks ops o, T[t]? = T'[t]?) : axOne E R ops o ⟨T, H⟩ = axOne E R ops o ⟨T', H⟩ := by
  have hw : wantedA ops T o = wantedA ops T' o := by
    obtain ⟨dst, op, type, pos, after, guard⟩ := o
    unfold wantedA
    cases guard with
    | none => rfl
    | some g =>
      obtain ⟨j, want⟩ := g
      simp only
      cases hd : (ops[j]?).bind (·.dst) with
      | none => rfl
      | some d =>
        have := h d (by simp [looks, hd])
        simp only [this]
  have ho : axOp E R T H o = axOp E R T' H o := axOp_congr fun x hx => ev_of_get fun t ht => h t (by
    subst ht
    unfold looks
    exact List.mem_append_left _ (List.mem_filterMap.2 ⟨.tmp t, by simpa using hx, rfl⟩))
  unfold axOne
  rw [hw, ho]

theorem keep_some {H H' : Heap} {x : Option AV} {r : AV} (h : keep H x = some (r, H')) : H' = H ∧ ∀ K, keep K x = some (r, K) := by
  cases x with
  | none => simp [keep] at h
  | some v =>
    simp only [keep, Option.some.injEq, Prod.mk.injEq] at h
    obtain ⟨rfl, rfl⟩ := h
    exact ⟨rfl, fun K => rfl⟩

/-- A quiet operation leaves memory as it is. -/
theorem quiet_heap {E : Env} {R : Rec} {T : List AV} {H H' : Heap} {o : Oper} {r : AV} (hq : quietOp o.op = true) (h : axOp E R T H o = some (r, H')) : H' = H := by
  obtain ⟨dst, op, type, pos, after, guard⟩ := o
  cases op
  case call c =>
    obtain ⟨callee, args, ats⟩ := c
    cases callee with
    | value f => simp [quietOp] at hq
    | invoke r m => simp [quietOp] at hq
    | builtin b =>
      simp only [axOp] at h
      split at h <;> try (simp at h; done)
      unfold builtinA at h
      cases b <;> simp only [quietOp, Bool.false_eq_true] at hq
      all_goals
        split at h <;> first
          | (simp at h; done)
          | ((repeat' split at h) <;> simp_all; done)
          | ((repeat' split at h) <;> simp_all; obtain ⟨_, _, _, rfl⟩ := h; rfl)
  all_goals first
    | (simp [quietOp] at hq; done)
    | skip
  all_goals
    simp only [axOp] at h
    (repeat' split at h)
    all_goals first
      | (simp at h; done)
      | exact (keep_some h).1
      | (simp only [Option.some.injEq, Prod.mk.injEq] at h; exact h.2.symm)

/-- One that reads nothing does as it does in any memory. -/
theorem quiet_frame {E : Env} {R : Rec} {T : List AV} {H H' : Heap} {o : Oper} {r : AV} (hq : quietOp o.op = true) (h1 : ∀ t a, o.op ≠ .load t a) (h2 : ∀ t x l u m, o.op ≠ .slice t x l u m) (h : axOp E R T H o = some (r, H')) (K : Heap) : axOp E R T K o = some (r, K) := by
  obtain ⟨dst, op, type, pos, after, guard⟩ := o
  cases op
  case load t a => exact absurd rfl (h1 t a)
  case slice t x l u m => exact absurd rfl (h2 t x l u m)
  case call c =>
    obtain ⟨callee, args, ats⟩ := c
    cases callee with
    | value f => simp [quietOp] at hq
    | invoke r m => simp [quietOp] at hq
    | builtin b =>
      simp only [axOp] at h ⊢
      split at h <;> try (simp at h; done)
      rename_i as has
      unfold builtinA at h ⊢
      cases b <;> simp only [quietOp, Bool.false_eq_true] at hq
      all_goals
        split at h <;> first
          | (simp at h; done)
          | (simp_all; done)
          | (simp_all; (repeat' split at h) <;> simp_all; done)
          | (obtain ⟨x, hx, hy⟩ := Option.map_eq_some_iff.1 h
             simp only [Prod.mk.injEq] at hy
             exact Option.map_eq_some_iff.2 ⟨x, hx, by rw [hy.1]⟩)
  all_goals first
    | (simp [quietOp] at hq; done)
    | skip
  all_goals
    simp only [axOp] at h ⊢
    (repeat' split at h)
    all_goals first
      | (simp at h; done)
      | (simp_all; done)
      | (simp_all; exact (keep_some h).2 K)
      | skip

end Go.AX

/- AX, part 17: regions of open order: what must go before; the sequence; the trace. -/
set_option linter.unusedVariables false
set_option linter.unusedSimpArgs false
namespace Go.AX
open Go Go.RowKit

/-! ### What must go before -/

def befStep (acc : Array Nat) (o : Oper) : Array Nat :=
  acc.push (o.after.foldl (fun s e => if Region.binds .any e then s ||| 2 ^ e.on ||| acc.getD e.on 0 else s) 0)

theorem bef_fold (acc : Array Nat) (j : Nat) : ∀ (es : List Edge) (s0 : Nat), (es.foldl (fun s e => if Region.binds .any e then s ||| 2 ^ e.on ||| acc.getD e.on 0 else s) s0).testBit j = true →
    s0.testBit j = true ∨ ∃ e ∈ es, Region.binds .any e = true ∧ (e.on = j ∨ (acc.getD e.on 0).testBit j = true)
  | [], s0, h => .inl h
  | e :: es, s0, h => by
    simp only [List.foldl_cons] at h
    rcases bef_fold acc j es _ h with h1 | ⟨e', he, hb⟩
    · split at h1
      · rename_i hb
        simp only [Nat.testBit_or, Bool.or_eq_true, Nat.testBit_two_pow, decide_eq_true_eq] at h1
        rcases h1 with (h1 | h1) | h1
        · exact .inl h1
        · exact .inr ⟨e, by simp, hb, .inl h1⟩
        · exact .inr ⟨e, by simp, hb, .inr h1⟩
      · exact .inl h1
    · exact .inr ⟨e', by simp [he], hb⟩

def BefOK (pre : List Oper) (acc : Array Nat) : Prop := acc.size = pre.length ∧ ∀ i o j, pre[i]? = some o → (acc.getD i 0).testBit j = true →
  ∃ e ∈ o.after.toList, Region.binds .any e = true ∧ (e.on = j ∨ (e.on < i ∧ (acc.getD e.on 0).testBit j = true))

theorem befOK_step {pre : List Oper} {acc : Array Nat} (h : BefOK pre acc) (o : Oper) : BefOK (pre ++ [o]) (befStep acc o) := by
  obtain ⟨h1, h2⟩ := h
  have hold : ∀ i, i < acc.size → (befStep acc o).getD i 0 = acc.getD i 0 := by
    intro i hi
    simp [befStep, Array.getD, hi, Array.getElem_push_lt, Nat.lt_succ_of_lt hi]
  have hbig : ∀ i j, acc.size ≤ i → (acc.getD i 0).testBit j = false := by
    intro i j hi
    simp [Array.getD, Nat.not_lt.2 hi]
  refine ⟨by simp [befStep, h1], fun i o' j hi hj => ?_⟩
  by_cases hlt : i < pre.length
  · rw [List.getElem?_append_left hlt] at hi
    rw [hold i (by omega)] at hj
    obtain ⟨e, g1, g2, g3⟩ := h2 i o' j hi hj
    refine ⟨e, g1, g2, g3.imp id fun ⟨g4, g5⟩ => ⟨g4, by rw [hold e.on (by omega)]; exact g5⟩⟩
  · rw [List.getElem?_append_right (Nat.le_of_not_lt hlt)] at hi
    have hi0 : i = pre.length := by
      by_cases h0 : i - pre.length = 0
      · omega
      · rw [List.getElem?_eq_none (by simp; omega)] at hi; simp at hi
    subst hi0
    simp at hi
    subst hi
    have hj' : (o.after.toList.foldl (fun s e => if Region.binds .any e then s ||| 2 ^ e.on ||| acc.getD e.on 0 else s) 0).testBit j = true := by
      have hg : (befStep acc o).getD pre.length 0 = o.after.foldl (fun s e => if Region.binds .any e then s ||| 2 ^ e.on ||| acc.getD e.on 0 else s) 0 := by
        unfold befStep
        rw [← h1]
        simp only [Array.getD, Array.size_push, Nat.lt_succ_self, dif_pos]
        exact Array.getElem_push_eq
      rw [Array.foldl_toList, ← hg]
      exact hj
    rcases bef_fold acc j _ _ hj' with h3 | ⟨e, g1, g2, g3⟩
    · simp at h3
    · refine ⟨e, g1, g2, g3.imp id fun g4 => ?_⟩
      have hlt : e.on < acc.size := by
        rcases Nat.lt_or_ge e.on acc.size with h | h
        · exact h
        · rw [hbig _ _ h] at g4; simp at g4
      exact ⟨by omega, by rw [hold e.on hlt]; exact g4⟩

theorem befOK_fold : ∀ (os pre : List Oper) (acc : Array Nat), BefOK pre acc → BefOK (pre ++ os) (os.foldl befStep acc)
  | [], pre, acc, h => by simpa using h
  | o :: os, pre, acc, h => by
    have := befOK_fold os (pre ++ [o]) (befStep acc o) (befOK_step h o)
    simpa using this

theorem bit_spec {ops : List Oper} {i j : Nat} {o : Oper} (hi : ops[i]? = some o) (h : bit (befs ops) i j = true) :
    ∃ e ∈ o.after.toList, Region.binds .any e = true ∧ (e.on = j ∨ (e.on < i ∧ bit (befs ops) e.on j = true)) := by
  have hb : BefOK ops (Region.before ops.toArray) := by
    have := befOK_fold ops [] #[] ⟨rfl, fun i o j hi => by simp at hi⟩
    have hr : Region.before ops.toArray = ops.foldl befStep #[] := by
      unfold Region.before
      simp only [List.foldl_toArray']
      rfl
    rw [hr]; simpa using this
  have hbit : ∀ i j, bit (befs ops) i j = ((Region.before ops.toArray).getD i 0).testBit j := by
    intro i j
    simp [bit, befs, List.getD, Array.getD_eq_getD_getElem?]
  rw [hbit] at h
  obtain ⟨e, g1, g2, g3⟩ := hb.2 i o j hi h
  exact ⟨e, g1, g2, g3.imp id fun ⟨g4, g5⟩ => ⟨g4, by rw [hbit]; exact g5⟩⟩

theorem bit_none {ops : List Oper} {i j : Nat} (hi : ops[i]? = none) : bit (befs ops) i j = false := by
  have hsz : (befs ops).length = ops.length := by
    have := befOK_fold ops [] #[] ⟨rfl, fun i o j hi => by simp at hi⟩
    have hr : Region.before ops.toArray = ops.foldl befStep #[] := by
      unfold Region.before
      simp only [List.foldl_toArray']
      rfl
    unfold befs
    rw [hr]
    simpa using this.1
  have : (befs ops)[i]? = none := List.getElem?_eq_none (by rw [hsz]; exact List.getElem?_eq_none_iff.1 hi)
  simp [bit, List.getD, this]

/-! ### The sequence -/

theorem seq_mem {ops : List Oper} {o : Oper} {i : Nat} : (o, i) ∈ seqOf ops ↔ ops[i]? = some o := by
  unfold seqOf
  simp only [List.mem_append, List.mem_filter]
  have hz : (o, i) ∈ ops.zipIdx ↔ ops[i]? = some o := by
    rw [List.mem_zipIdx_iff_getElem?]
  constructor
  · rintro (⟨h, _⟩ | ⟨h, _⟩) <;> exact hz.1 h
  · intro h
    by_cases hh : hoist o = true
    · exact .inl ⟨hz.2 h, hh⟩
    · exact .inr ⟨hz.2 h, by simpa using hh⟩

theorem zip_sorted (ops : List Oper) : ∀ n, (ops.zipIdx n).Pairwise (fun x y => x.2 < y.2) := by
  induction ops with
  | nil => intro n; simp
  | cons o os ih =>
    intro n
    simp only [List.zipIdx_cons, List.pairwise_cons]
    refine ⟨fun x hx => ?_, ih (n + 1)⟩
    obtain ⟨y, i⟩ := x
    have := List.mem_zipIdx hx
    simp only
    omega

/-- Hoisted ones stand first; the others, and the hoisted ones, stand as written. -/
theorem seq_sorted (ops : List Oper) : (seqOf ops).Pairwise (fun x y => (hoist y.1 = true → hoist x.1 = true) ∧ (hoist x.1 = hoist y.1 → x.2 < y.2)) := by
  unfold seqOf
  rw [List.pairwise_append]
  refine ⟨?_, ?_, ?_⟩
  · rw [List.pairwise_filter]
    exact (zip_sorted ops 0).imp fun {x y} h hx hy => ⟨fun _ => hx, fun _ => h⟩
  · rw [List.pairwise_filter]
    exact (zip_sorted ops 0).imp fun {x y} h hx hy => ⟨fun h' => by simp [h'] at hy, fun _ => h⟩
  · intro x hx y hy
    rw [List.mem_filter] at hx hy
    exact ⟨fun _ => hx.2, fun h => by rw [hx.2] at h; simp [← h] at hy⟩

section
variable {ops : List Oper} {k k' i i' : Nat} {o o' : Oper}

theorem seq_get (h : (seqOf ops)[k]? = some (o, i)) : ops[i]? = some o := seq_mem.1 (List.mem_of_getElem? h)

theorem seq_has (h : ops[i]? = some o) : ∃ k : Nat, (seqOf ops)[k]? = some (o, i) := List.getElem?_of_mem (seq_mem.2 h)

theorem seq_lt (h : (seqOf ops)[k]? = some (o, i)) (h' : (seqOf ops)[k']? = some (o', i')) (hk : k < k') : (hoist o' = true → hoist o = true) ∧ (hoist o = hoist o' → i < i') := by
  obtain ⟨hl, e⟩ := List.getElem?_eq_some_iff.1 h
  obtain ⟨hl', e'⟩ := List.getElem?_eq_some_iff.1 h'
  have := List.pairwise_iff_getElem.1 (seq_sorted ops) k k' hl hl' hk
  rw [e, e'] at this
  exact this

theorem seq_inj (h : (seqOf ops)[k]? = some (o, i)) (h' : (seqOf ops)[k']? = some (o', i)) : k = k' := by
  have hoo : o = o' := by have := seq_get h; rw [seq_get h'] at this; simpa using this.symm
  subst hoo
  rcases Nat.lt_trichotomy k k' with hk | hk | hk
  · have := (seq_lt h h' hk).2 rfl; omega
  · exact hk
  · have := (seq_lt h' h hk).2 rfl; omega

end

/-! ### The trace -/

def stAt (tr : List (St × AV)) (last : St) (k : Nat) : St := ((tr[k]?).map (·.1)).getD last
def valAt (tr : List (St × AV)) (k : Nat) : AV := ((tr[k]?).map (·.2)).getD .undef

theorem trace_spec {E : Env} {R : Rec} {ops : List Oper} : ∀ (sq : List (Oper × Nat)) (s : St) (tr : List (St × AV)) (last : St), axTrace E R ops sq s = some (tr, last) →
    tr.length = sq.length ∧ stAt tr last 0 = s ∧ stAt tr last sq.length = last ∧ ∀ (k : Nat) (o : Oper) (i : Nat), sq[k]? = some (o, i) → axOne E R ops o (stAt tr last k) = some (valAt tr k, (stAt tr last (k + 1)).H) ∧ (stAt tr last (k + 1)).T = put (stAt tr last k).T o.dst (valAt tr k)
  | [], s, tr, last, h => by
    simp [axTrace] at h
    obtain ⟨rfl, rfl⟩ := h
    refine ⟨rfl, rfl, rfl, ?_⟩
    intro k o i hk
    simp at hk
  | (o, i) :: os, s, tr, last, h => by
    simp only [axTrace] at h
    split at h <;> try (simp at h; done)
    rename_i v H1 h1
    split at h <;> try (simp at h; done)
    rename_i tr1 s1 h2
    simp only [Option.some.injEq, Prod.mk.injEq] at h
    obtain ⟨rfl, rfl⟩ := h
    obtain ⟨g1, g2, g3, g4⟩ := trace_spec os _ tr1 s1 h2
    refine ⟨by simp [g1], rfl, by simpa [stAt] using g3, fun k o' i' hk => ?_⟩
    cases k with
    | zero =>
      simp at hk
      obtain ⟨rfl, rfl⟩ := hk
      have e0 : stAt ((s, v) :: tr1) s1 0 = s := rfl
      have e1 : stAt ((s, v) :: tr1) s1 1 = ⟨put s.T o.dst v, H1⟩ := by rw [← g2]; simp [stAt]
      rw [e0, e1]
      exact ⟨by simpa [valAt] using h1, by simp [valAt]⟩
    | succ k =>
      have := g4 k o' i' (by simpa using hk)
      simpa [stAt, valAt] using this

end Go.AX

/- AX, part 18: regions of open order: every order comes to the same. -/
set_option linter.unusedVariables false
set_option linter.unusedSimpArgs false
namespace Go.AX
open Go Go.RowKit

section
variable {P : Program} {Z : Nat → Prop} {w : World} {ρ : Rho} {B : Nat} {H : Heap}

/-- Blocks without a name may be added. -/
theorem HRel.widen (hH : HRel B Z w ρ H) {H' : Heap} (h1 : ∀ id x, ρ id = some x → H'[id]? = H[id]?) (h2 : H.length ≤ H'.length) : HRel B Z w ρ H' := by
  constructor
  · intro id x hx; have := hH.dom id x hx; omega
  · intro id cs b base g1 g2; rw [h1 id _ g2] at g1; exact hH.cells id cs b base g1 g2
  · intro id tm ps as bo st pd b base g1 g2; rw [h1 id _ g2] at g1; exact hH.loop id tm ps as bo st pd b base g1 g2
  · intro id id' b base base' k k' g1 l1 g2 l2 r1 r2
    rw [h1 id _ r1] at g1
    rw [h1 id' _ r2] at g2
    exact hH.inj id id' b base base' k k' g1 l1 g2 l2 r1 r2
  · exact hH.low
  · exact hH.zlt
  · exact hH.big
  · exact hH.zc

/-- A block without a name gets its memory. -/
theorem HRel.late (hH : HRel B Z w ρ H) {id : Nat} (hn : ρ id = none) {cs : List AV} (hc : H[id]? = some (.cells cs)) {c : Array Value} (t : TypeId) (hr : RelA Z w ρ cs c) (h1 : cs.all oneCell = true) :
    HRel B Z (w.alloc (.cells c t)) (upd ρ id (w.heap.size, 0)) H ∧ ∀ {v : AV} {x : Value}, Rel Z w ρ v x → Rel Z (w.alloc (.cells c t)) (upd ρ id (w.heap.size, 0)) v x := by
  have mono : ∀ {v : AV} {x : Value}, Rel Z w ρ v x → Rel Z (w.alloc (.cells c t)) (upd ρ id (w.heap.size, 0)) v x := fun h =>
    h.mono' (fun _ h => h) (fun b hb => alloc_old (hH.zlt b hb)) (fun b s hs => shape_alloc hs) _ (fun id' y hy => by
      have : id' ≠ id := fun e => by rw [e, hn] at hy; simp at hy
      simp [upd, this, hy])
  refine ⟨?_, mono⟩
  have hlt : id < H.length := (List.getElem?_eq_some_iff.1 hc).1
  constructor
  · intro j x hx
    rcases upd_inv hx with ⟨rfl, _⟩ | ⟨_, h⟩
    · exact hlt
    · exact hH.dom j x h
  · intro j cs' b base g1 g2
    rcases upd_inv g2 with ⟨rfl, h3⟩ | ⟨hne, h3⟩
    · simp at h3
      obtain ⟨rfl, rfl⟩ := h3
      rw [hc] at g1
      simp at g1
      subst g1
      refine ⟨fun hz => by have := hH.zlt _ hz; omega, c, t, alloc_new, by rw [hr.1]; omega, fun i hi => ?_⟩
      have hi' : i < c.size := hr.1 ▸ hi
      exact ⟨c[i], by simp [hi'], mono (hr.2 i hi hi'), all_one h1 i hi⟩
    · obtain ⟨q1, c', t', q2, q3, q4⟩ := hH.cells j cs' b base g1 h3
      refine ⟨q1, c', t', by rw [alloc_old (lt_of_some q2)]; exact q2, q3, fun i hi => ?_⟩
      obtain ⟨v, k1, k2, k3⟩ := q4 i hi
      exact ⟨v, k1, mono k2, k3⟩
  · intro j tm ps as bo st pd b base g1 g2
    rcases upd_inv g2 with ⟨rfl, h3⟩ | ⟨hne, h3⟩
    · rw [hc] at g1; simp at g1
    · obtain ⟨q1, q2, fn, tmv, dfr, q3, q4⟩ := hH.loop j tm ps as bo st pd b base g1 h3
      exact ⟨q1, q2, fn, tmv, dfr, by rw [alloc_old (lt_of_some q3)]; exact q3, q4.1, fun i hi hi' => mono (q4.2 i hi hi')⟩
  · intro j j' b base base' k k' g1 l1 g2 l2 r1 r2
    rcases upd_inv r1 with ⟨rfl, e1⟩ | ⟨n1, e1⟩ <;> rcases upd_inv r2 with ⟨rfl, e2⟩ | ⟨n2, e2⟩
    · rfl
    · simp at e1
      have := (hH.low _ _ _ e2).2
      omega
    · simp at e2
      have := (hH.low _ _ _ e1).2
      omega
    · exact hH.inj j j' b base base' k k' g1 l1 g2 l2 e1 e2
  · intro j b base r1
    rcases upd_inv r1 with ⟨rfl, e1⟩ | ⟨n1, e1⟩
    · simp at e1
      obtain ⟨rfl, rfl⟩ := e1
      exact ⟨hH.big, by simp⟩
    · have := hH.low _ _ _ e1
      exact ⟨this.1, by simp; omega⟩
  · intro b hb; have := hH.zlt b hb; simp; omega
  · have := hH.big; simp; omega
  · intro b hb
    obtain ⟨c', t', fr, h⟩ := hH.zc b hb
    exact ⟨c', t', fr, by rw [alloc_old (lt_of_some h)]; exact h⟩

end

/-! ### Stores into two blocks -/

theorem storeA_comm {P : Program} {H H1 H2 : Heap} {t1 t2 : TypeId} {x y o1 o2 : Nat} {v1 v2 : AV} (h1 : storeA P H t1 (.ptr x o1) v1 = some H1) (h2 : storeA P H1 t2 (.ptr y o2) v2 = some H2) (hne : x ≠ y) :
    ∃ K, storeA P H t2 (.ptr y o2) v2 = some K ∧ storeA P K t1 (.ptr x o1) v1 = some H2 := by
  unfold storeA at h1 h2
  simp only at h1 h2
  split at h1 <;> try (simp at h1; done)
  rename_i c1 hc1
  split at h1 <;> try (simp at h1; done)
  rename_i k1
  split at h1 <;> try (simp at h1; done)
  rename_i d1 hd1
  simp only [Option.some.injEq] at h1
  subst h1
  rw [List.getElem?_set_ne hne] at h2
  split at h2 <;> try (simp at h2; done)
  rename_i c2 hc2
  split at h2 <;> try (simp at h2; done)
  rename_i k2
  split at h2 <;> try (simp at h2; done)
  rename_i d2 hd2
  simp only [Option.some.injEq] at h2
  subst h2
  refine ⟨H.set y (.cells d2), ?_, ?_⟩
  · unfold storeA
    simp only [hc2]
    rw [if_pos k2, hd2]
  · unfold storeA
    simp only
    rw [List.getElem?_set_ne (Ne.symm hne), hc1]
    simp only
    rw [if_pos k1, hd1]
    simp only [Option.some.injEq]
    exact List.set_comm _ _ (Ne.symm hne)

/-! ### The checks, read -/

structure OkAt (E : Env) (R : Rec) (ops : List Oper) (tr : List (St × AV)) (last : St) (k i : Nat) (o : Oper) : Prop where
  aft : ∀ e ∈ o.after.toList, Region.binds .any e = true → e.on < i
  uniq : ∀ d, o.dst = some d → ∀ (j : Nat) p, ops[j]? = some p → p.dst = some d → j = i
  look : ∀ t ∈ looks ops o, ∀ (j : Nat) p, ops[j]? = some p → p.dst = some t → j = i ∨ bit (befs ops) i j = true ∨ bit (befs ops) j i = true
  heaps : loudOp o = false → ∀ h ∈ heapsFor (befs ops) last.H i (seqOf ops) tr, okHeap E R ops o (stAt tr last k) (valAt tr k) h = true

theorem okAll_get {E : Env} {R : Rec} {ops : List Oper} {bs : List Nat} {sq : List (Oper × Nat)} {all : List (St × AV)} {last : St} : ∀ (os : List (Oper × Nat)) (ts : List (St × AV)), okAll E R ops bs sq all last os ts = true → ∀ (k : Nat) o i, os[k]? = some (o, i) →
    ∃ s v, ts[k]? = some (s, v) ∧ okAt E R ops bs sq all last i o s v = true
  | [], [], _, k, o, i, hk => by simp at hk
  | [], t :: ts, h, k, o, i, hk => by simp at hk
  | (p, j) :: os, [], h, k, o, i, hk => by simp [okAll] at h
  | (p, j) :: os, (s, v) :: ts, h, k, o, i, hk => by
    simp only [okAll, Bool.and_eq_true] at h
    cases k with
    | zero =>
      simp at hk
      obtain ⟨rfl, rfl⟩ := hk
      exact ⟨s, v, rfl, h.1⟩
    | succ k => exact okAll_get os ts h.2 k o i (by simpa using hk)

theorem okAt_read {E : Env} {R : Rec} {ops : List Oper} {tr : List (St × AV)} {last : St} {k i : Nat} {o : Oper} (h : okAt E R ops (befs ops) (seqOf ops) tr last i o (stAt tr last k) (valAt tr k) = true) : OkAt E R ops tr last k i o := by
  unfold okAt at h
  simp only [Bool.and_eq_true] at h
  obtain ⟨⟨⟨h1, h2⟩, h3⟩, h4⟩ := h
  have hz : ∀ {j : Nat} {p : Oper}, ops[j]? = some p → (p, j) ∈ ops.zipIdx := fun h => List.mem_zipIdx_iff_getElem?.2 h
  refine ⟨?_, ?_, ?_, ?_⟩
  · intro e he hb
    have := List.all_eq_true.1 h1 e he
    simpa [hb] using this
  · intro d hd j p hj hp
    rw [hd] at h2
    have := List.all_eq_true.1 h2 _ (hz hj)
    simpa [hp] using this
  · intro t ht j p hj hp
    have := List.all_eq_true.1 (List.all_eq_true.1 h3 t ht) _ (hz hj)
    simp [hp] at this
    rcases this with (h | h) | h
    · exact .inl h
    · exact .inr (.inl h)
    · exact .inr (.inr h)
  · intro hq h hh
    rw [hq] at h4
    exact List.all_eq_true.1 (by simpa using h4) h hh

/-- Two loud operations stand in an order; but for the last two, perhaps. -/
def Tail (E : Env) (R : Rec) (ops : List Oper) (tr : List (St × AV)) (last : St) (a b : Nat) : Prop :=
  (∃ pa pb p q x y, (seqOf ops)[pa]? = some (p, a) ∧ (seqOf ops)[pb]? = some (q, b) ∧ storeId p (stAt tr last pa) = some x ∧ storeId q (stAt tr last pb) = some y ∧ x ≠ y ∧ p.guard = none ∧ q.guard = none) ∧
  (∀ (i : Nat) o, ops[i]? = some o → ((∃ t x, o.op = .load t x) ∨ (∃ t x l u m, o.op = .slice t x l u m) ∨ (∃ t, o.op = .alloc t)) → bit (befs ops) b i = true) ∧
  (∀ (k i : Nat) o, (seqOf ops)[k]? = some (o, i) → loudOp o = true → i ≠ a → i ≠ b → bit (befs ops) b i = true)

def Ordered (E : Env) (R : Rec) (ops : List Oper) (tr : List (St × AV)) (last : St) : Prop :=
  ∀ (k k' i i' : Nat) o o', (seqOf ops)[k]? = some (o, i) → (seqOf ops)[k']? = some (o', i') → loudOp o = true → loudOp o' = true → k < k' → bit (befs ops) i' i = true ∨ Tail E R ops tr last i i'

theorem pairOK_pw {bs : List Nat} : ∀ {l : List Nat}, pairOK bs l = true → l.Pairwise fun a b => bit bs b a = true
  | [], _ => .nil
  | a :: r, h => by
    simp only [pairOK, Bool.and_eq_true] at h
    exact .cons (fun b hb => List.all_eq_true.1 h.1 b hb) (pairOK_pw h.2)

theorem louds_pw {R' : Nat → Nat → Prop} {sq : List (Oper × Nat)} (h : (loudsOf sq).Pairwise R') {k k' i i' : Nat} {o o' : Oper} (hk : sq[k]? = some (o, i)) (hk' : sq[k']? = some (o', i')) (hl : loudOp o = true) (hl' : loudOp o' = true) (hlt : k < k') : R' i i' := by
  unfold loudsOf at h
  rw [List.pairwise_map, List.pairwise_filter] at h
  obtain ⟨b1, e1⟩ := List.getElem?_eq_some_iff.1 hk
  obtain ⟨b2, e2⟩ := List.getElem?_eq_some_iff.1 hk'
  have := List.pairwise_iff_getElem.1 h k k' b1 b2 hlt
  rw [e1, e2] at this
  exact this hl hl'

theorem stateOf_get {tr : List (St × AV)} {last : St} {sq : List (Oper × Nat)} {a : Nat} {p : Oper} {j : Nat} {s : St} {v : AV} (h : stateOf sq tr a = some ((p, j), (s, v))) : ∃ k : Nat, sq[k]? = some (p, a) ∧ s = stAt tr last k := by
  unfold stateOf at h
  have hm := List.mem_of_find?_eq_some h
  have hp := List.find?_some h
  simp at hp
  subst hp
  obtain ⟨k, hk⟩ := List.getElem?_of_mem hm
  rw [List.getElem?_zip_eq_some] at hk
  exact ⟨k, hk.1, by simp [stAt, hk.2]⟩

theorem ordered_of {E : Env} {R : Rec} {ops : List Oper} {tr : List (St × AV)} {last : St} (h : louds (befs ops) ops (seqOf ops) tr = true) : Ordered E R ops tr last := by
  intro k k' i i' o o' hk hk' hl hl' hlt
  unfold louds at h
  simp only [Bool.or_eq_true] at h
  rcases h with h | h
  · exact .inl (louds_pw (pairOK_pw h) hk hk' hl hl' hlt)
  · split at h <;> try (simp at h; done)
    rename_i b a pre hrev
    simp only [Bool.and_eq_true] at h
    obtain ⟨⟨h1, h2⟩, h3⟩ := h
    have hls : loudsOf (seqOf ops) = pre.reverse ++ [a, b] := by
      have := congrArg List.reverse hrev
      simpa using this
    have p1 := pairOK_pw h1
    have p2 := pairOK_pw h2
    rw [List.pairwise_append] at p1 p2
    have hpre : ∀ x ∈ pre.reverse, bit (befs ops) b x = true := fun x hx => p2.2.2 x hx b (by simp)
    have hpre' : ∀ x ∈ pre.reverse, bit (befs ops) a x = true := fun x hx => p1.2.2 x hx a (by simp)
    have hpw : (loudsOf (seqOf ops)).Pairwise fun x y => bit (befs ops) y x = true ∨ (x = a ∧ y = b) := by
      rw [hls, List.pairwise_append]
      refine ⟨p1.1.imp fun h => .inl h, by simp, fun x hx y hy => ?_⟩
      simp at hy
      rcases hy with rfl | rfl
      · exact .inl (hpre' x hx)
      · exact .inl (hpre x hx)
    rcases louds_pw hpw hk hk' hl hl' hlt with h | ⟨rfl, rfl⟩
    · exact .inl h
    · right
      unfold tailOK at h3
      simp only [Bool.and_eq_true] at h3
      obtain ⟨g1, g2⟩ := h3
      refine ⟨?_, ?_, ?_⟩
      · split at g1 <;> try (simp at g1; done)
        rename_i p j s v q j' s' v' e1 e2
        split at g1 <;> try (simp at g1; done)
        rename_i x y e3 e4
        simp only [Bool.and_eq_true, bne_iff_ne, Option.isNone_iff_eq_none] at g1
        obtain ⟨pa, r1, rfl⟩ := stateOf_get (last := last) e1
        obtain ⟨pb, r2, rfl⟩ := stateOf_get (last := last) e2
        exact ⟨pa, pb, p, q, x, y, r1, r2, e3, e4, g1.1.1, g1.1.2, g1.2⟩
      · intro i o hi ho
        have := List.all_eq_true.1 g2 (o, i) (List.mem_zipIdx_iff_getElem?.2 hi)
        rcases ho with ⟨t, x, ho⟩ | ⟨t, x, l, u, m, ho⟩ | ⟨t, ho⟩
        all_goals
          simp only [ho, Bool.and_eq_true] at this
          exact this.2
      · intro k2 i2 o2 hk2 hl2 ha hb
        have hmem : i2 ∈ loudsOf (seqOf ops) := by
          unfold loudsOf
          exact List.mem_map.2 ⟨(o2, i2), List.mem_filter.2 ⟨List.mem_of_getElem? hk2, hl2⟩, rfl⟩
        rw [hls] at hmem
        rcases List.mem_append.1 hmem with h | h
        · exact hpre i2 h
        · simp at h
          rcases h with h | h
          · exact absurd h ha
          · exact absurd h hb

end Go.AX

/- AX, part 19: regions of open order: the walk. -/
set_option linter.unusedVariables false
set_option linter.unusedSimpArgs false
namespace Go.AX
open Go Go.RowKit

/-- What has been carried out. -/
def on (S : Array Bool) (i : Nat) : Prop := S.getD i false = true

theorem on_set {S : Array Bool} {i j : Nat} (hi : i < S.size) : on (S.setIfInBounds i true) j ↔ on S j ∨ j = i := by
  unfold on
  by_cases h : i = j
  · subst h; simp [Array.getD, hi]
  · have hne : ¬ j = i := fun e => h e.symm
    have e : (S.setIfInBounds i true).getD j false = S.getD j false := by
      simp only [Array.getD_eq_getD_getElem?, Array.getElem?_setIfInBounds_ne h]
    rw [e]
    simp [hne]

/-- The temporaries after the operations at some places. -/
def TmpBy (sq : List (Oper × Nat)) (val : Nat → AV) (T0 : List AV) (p : Nat → Prop) (T : List AV) : Prop :=
  T.length = T0.length ∧ ∀ t, (∀ (k : Nat) o i, sq[k]? = some (o, i) → o.dst = some t → p k → t < T0.length → T[t]? = some (val k)) ∧ ((∀ (k : Nat) o i, sq[k]? = some (o, i) → o.dst = some t → ¬ p k) → T[t]? = T0[t]?)

theorem TmpBy.start (sq : List (Oper × Nat)) (val : Nat → AV) (T0 : List AV) {p : Nat → Prop} (hp : ∀ (k : Nat) o i, sq[k]? = some (o, i) → ¬ p k) : TmpBy sq val T0 p T0 :=
  ⟨rfl, fun t => ⟨fun k o i hk _ h _ => absurd h (hp k o i hk), fun _ => rfl⟩⟩

theorem TmpBy.put {sq : List (Oper × Nat)} {val : Nat → AV} {T0 T : List AV} {p p' : Nat → Prop} (h : TmpBy sq val T0 p T) {k : Nat} {o : Oper} {i : Nat} (hk : sq[k]? = some (o, i))
    (hu : ∀ d, o.dst = some d → ∀ (k' : Nat) o' i', sq[k']? = some (o', i') → o'.dst = some d → k' = k) (hp : ∀ j, p' j ↔ p j ∨ j = k) : TmpBy sq val T0 p' (put T o.dst (val k)) := by
  refine ⟨by cases o.dst <;> simp [AX.put, h.1], fun t => ⟨fun k' o' i' hk' hd hpk hlt => ?_, fun hno => ?_⟩⟩
  · by_cases ht : o.dst = some t
    · have hkk := hu t ht k' o' i' hk' hd
      subst hkk
      rw [ht]
      simp only [AX.put]
      rw [List.getElem?_set_self (by rw [h.1]; exact hlt)]
    · have hT : (AX.put T o.dst (val k))[t]? = T[t]? := by
        cases hd' : o.dst with
        | none => rfl
        | some d =>
          simp only [AX.put]
          exact List.getElem?_set_ne (fun e => ht (by rw [hd', e]))
      rw [hT]
      refine (h.2 t).1 k' o' i' hk' hd ?_ hlt
      rcases (hp k').1 hpk with h | rfl
      · exact h
      · rw [hk] at hk'
        simp at hk'
        obtain ⟨rfl, rfl⟩ := hk'
        exact absurd hd ht
  · have ht : o.dst ≠ some t := fun e => hno k o i hk e ((hp k).2 (.inr rfl))
    have hT : (AX.put T o.dst (val k))[t]? = T[t]? := by
      cases hd' : o.dst with
      | none => rfl
      | some d =>
        simp only [AX.put]
        exact List.getElem?_set_ne (fun e => ht (by rw [hd', e]))
    rw [hT]
    exact (h.2 t).2 fun k' o' i' hk' hd hpk => hno k' o' i' hk' hd ((hp k').2 (.inl hpk))

theorem TmpBy.agree {sq : List (Oper × Nat)} {val : Nat → AV} {T0 T T' : List AV} {p p' : Nat → Prop} (h : TmpBy sq val T0 p T) (h' : TmpBy sq val T0 p' T') {t : Nat} (hp : ∀ (k : Nat) o i, sq[k]? = some (o, i) → o.dst = some t → (p k ↔ p' k)) : T[t]? = T'[t]? := by
  by_cases hlt : t < T0.length
  · by_cases hex : ∃ (k : Nat) (o : Oper) (i : Nat), sq[k]? = some (o, i) ∧ o.dst = some t ∧ p k
    · obtain ⟨k, o, i, h1, h2, h3⟩ := hex
      rw [(h.2 t).1 k o i h1 h2 h3 hlt, (h'.2 t).1 k o i h1 h2 ((hp k o i h1 h2).1 h3) hlt]
    · rw [(h.2 t).2 (fun k o i h1 h2 h3 => hex ⟨k, o, i, h1, h2, h3⟩), (h'.2 t).2 (fun k o i h1 h2 h3 => hex ⟨k, o, i, h1, h2, (hp k o i h1 h2).2 h3⟩)]
  · rw [List.getElem?_eq_none (by rw [h.1]; omega), List.getElem?_eq_none (by rw [h'.1]; omega)]

theorem TmpBy.eq {sq : List (Oper × Nat)} {val : Nat → AV} {T0 T T' : List AV} {p p' : Nat → Prop} (h : TmpBy sq val T0 p T) (h' : TmpBy sq val T0 p' T') (hp : ∀ (k : Nat) o i, sq[k]? = some (o, i) → (p k ↔ p' k)) : T = T' :=
  List.ext_getElem? fun t => h.agree h' fun k o i hk _ => hp k o i hk

/-! ### A walk's ground -/

structure Walk (E : Env) (R : Rec) (ops : List Oper) (s : St) (tr : List (St × AV)) (last : St) : Prop where
  len : tr.length = (seqOf ops).length
  first : stAt tr last 0 = s
  fin : stAt tr last (seqOf ops).length = last
  step : ∀ (k : Nat) (o : Oper) (i : Nat), (seqOf ops)[k]? = some (o, i) → axOne E R ops o (stAt tr last k) = some (valAt tr k, (stAt tr last (k + 1)).H) ∧ (stAt tr last (k + 1)).T = put (stAt tr last k).T o.dst (valAt tr k)
  ok : ∀ (k : Nat) (o : Oper) (i : Nat), (seqOf ops)[k]? = some (o, i) → OkAt E R ops tr last k i o
  ord : Ordered E R ops tr last

theorem walk_of {E : Env} {R : Rec} {ops : List Oper} {s s' : St} (h : axDraw E R ops s = some s') : ∃ tr, Walk E R ops s tr s' := by
  unfold axDraw at h
  split at h <;> try (simp at h; done)
  rename_i tr last ht
  split at h <;> try (simp at h; done)
  rename_i hc
  simp only [Option.some.injEq] at h
  subst h
  simp only [Bool.and_eq_true] at hc
  obtain ⟨g1, g2, g3, g4⟩ := trace_spec _ _ _ _ ht
  refine ⟨tr, g1, g2, g3, g4, fun k o i hk => ?_, ordered_of hc.1⟩
  obtain ⟨s1, v1, e1, e2⟩ := okAll_get _ _ hc.2 k o i hk
  refine okAt_read ?_
  have h1 : stAt tr last k = s1 := by simp [stAt, e1]
  have h2 : valAt tr k = v1 := by simp [valAt, e1]
  rw [h1, h2]; exact e2

section
variable {E : Env} {R : Rec} {ops : List Oper} {s last : St} {tr : List (St × AV)}

theorem Walk.bit_lt (W : Walk E R ops s tr last) : ∀ (i j : Nat), bit (befs ops) i j = true → j < i ∧ ∃ o, ops[i]? = some o ∧ hoist o = false := by
  intro i
  induction i using Nat.strongRecOn with
  | _ i ih =>
    intro j h
    cases hi : ops[i]? with
    | none => rw [bit_none hi] at h; simp at h
    | some o =>
      obtain ⟨k, hk⟩ := seq_has hi
      have hok := W.ok k o i hk
      obtain ⟨e, g1, g2, g3⟩ := bit_spec hi h
      have hlt := hok.aft e g1 g2
      refine ⟨?_, o, rfl, ?_⟩
      · rcases g3 with rfl | ⟨_, g5⟩
        · exact hlt
        · have := (ih e.on hlt j g5).1; omega
      · unfold hoist
        split
        · have : o.after.toList.isEmpty = false := by
            cases hl : o.after.toList with
            | nil => rw [hl] at g1; simp at g1
            | cons a l => rfl
          simp [this]
        · rfl

theorem Walk.bit_pos (W : Walk E R ops s tr last) {k k' i j : Nat} {o o' : Oper} (hk : (seqOf ops)[k]? = some (o, i)) (hk' : (seqOf ops)[k']? = some (o', j)) (h : bit (befs ops) i j = true) : k' < k := by
  obtain ⟨hlt, o1, h1, h2⟩ := W.bit_lt i j h
  have he := seq_get hk
  rw [h1] at he
  simp at he
  subst he
  rcases Nat.lt_trichotomy k' k with h | h | h
  · exact h
  · subst h
    rw [hk] at hk'
    simp at hk'
    omega
  · obtain ⟨g1, g2⟩ := seq_lt hk hk' h
    by_cases hh : hoist o' = true
    · rw [g1 hh] at h2; simp at h2
    · have := g2 (by rw [h2]; simpa using hh)
      omega

theorem Walk.tmps (W : Walk E R ops s tr last) : ∀ k, k ≤ (seqOf ops).length → TmpBy (seqOf ops) (valAt tr) s.T (· < k) (stAt tr last k).T := by
  intro k
  induction k with
  | zero => intro _; rw [W.first]; exact TmpBy.start _ _ _ fun k o i _ h => by omega
  | succ k ih =>
    intro hk
    have hlt : k < (seqOf ops).length := by omega
    obtain ⟨⟨o, i⟩, ho⟩ : ∃ x, (seqOf ops)[k]? = some x := ⟨_, List.getElem?_eq_getElem hlt⟩
    rw [(W.step k o i ho).2]
    refine (ih (by omega)).put ho (fun d hd k' o' i' hk' hd' => ?_) (fun j => by omega)
    have := (W.ok k o i ho).uniq d hd i' o' (seq_get hk') hd'
    subst this
    exact seq_inj hk' ho

theorem axOne_quiet_heap {T : List AV} {H H' : Heap} {o : Oper} {r : AV} (hq : quietOp o.op = true) (h : axOne E R ops o ⟨T, H⟩ = some (r, H')) : H' = H := by
  unfold axOne at h
  split at h
  · exact quiet_heap hq h
  · simp only [Option.some.injEq, Prod.mk.injEq] at h; exact h.2.symm

theorem quiet_of {o : Oper} (h1 : loudOp o = false) (h2 : hoist o = false) : quietOp o.op = true := by
  unfold loudOp at h1
  simp [h2] at h1
  exact h1

theorem loud_not_hoist {o : Oper} (h : loudOp o = true) : hoist o = false := by
  unfold loudOp at h
  simp at h
  exact h.2

theorem hoist_not_loud {o : Oper} (h : hoist o = true) : loudOp o = false := by
  unfold loudOp
  simp [h]

theorem hoist_alloc {o : Oper} (h : hoist o = true) : ∃ t, o.op = .alloc t ∧ o.after.toList = [] ∧ o.guard = none := by
  unfold hoist at h
  split at h
  · rename_i t ht
    simp at h
    exact ⟨t, ht, by simpa using h.1, h.2⟩
  · simp at h

/-- From a place on, memory is as it was as long as nothing loud comes. -/
theorem Walk.same (W : Walk E R ops s tr last) : ∀ (d j : Nat), j + d ≤ (seqOf ops).length → (∀ (k : Nat) o i, (seqOf ops)[k]? = some (o, i) → j ≤ k → k < j + d → loudOp o = false ∧ hoist o = false) → (stAt tr last (j + d)).H = (stAt tr last j).H := by
  intro d
  induction d with
  | zero => intro j _ _; rfl
  | succ d ih =>
    intro j hl h
    have hlt : j + d < (seqOf ops).length := by omega
    obtain ⟨⟨o, i⟩, ho⟩ : ∃ x, (seqOf ops)[j + d]? = some x := ⟨_, List.getElem?_eq_getElem hlt⟩
    obtain ⟨h1, h2⟩ := h (j + d) o i ho (by omega) (by omega)
    have := axOne_quiet_heap (quiet_of h1 h2) (W.step (j + d) o i ho).1
    rw [← Nat.add_assoc, this]
    exact ih j (by omega) fun k o i hk a b => h k o i hk a (by omega)

/-- The next loud one. -/
def Cut (ops : List Oper) (c : Nat) : Prop := c ≤ (seqOf ops).length ∧ (c = (seqOf ops).length ∨ ∃ o i, (seqOf ops)[c]? = some (o, i) ∧ loudOp o = true)

theorem next_loud (ops : List Oper) : ∀ (d j : Nat), j + d = (seqOf ops).length → ∃ c, j ≤ c ∧ Cut ops c ∧ ∀ (k : Nat) o i, (seqOf ops)[k]? = some (o, i) → j ≤ k → k < c → loudOp o = false := by
  intro d
  induction d with
  | zero => intro j h; exact ⟨j, Nat.le_refl _, ⟨by omega, .inl (by omega)⟩, fun k o i _ a b => by omega⟩
  | succ d ih =>
    intro j h
    have hlt : j < (seqOf ops).length := by omega
    obtain ⟨⟨o, i⟩, ho⟩ : ∃ x, (seqOf ops)[j]? = some x := ⟨_, List.getElem?_eq_getElem hlt⟩
    by_cases hl : loudOp o = true
    · exact ⟨j, Nat.le_refl _, ⟨by omega, .inr ⟨o, i, ho, hl⟩⟩, fun k o i _ a b => by omega⟩
    · obtain ⟨c, h1, h2, h3⟩ := ih (j + 1) (by omega)
      refine ⟨c, by omega, h2, fun k o' i' hk a b => ?_⟩
      by_cases he : k = j
      · subst he
        rw [ho] at hk
        simp at hk
        obtain ⟨rfl, rfl⟩ := hk
        simpa using hl
      · exact h3 k o' i' hk (by omega) b

/-- Behind a loud one nothing is hoisted. -/
theorem not_hoist_behind {ops : List Oper} {c k : Nat} {o o' : Oper} {i i' : Nat} (hc : (seqOf ops)[c]? = some (o, i)) (hl : hoist o = false) (hk : (seqOf ops)[k]? = some (o', i')) (hle : c ≤ k) : hoist o' = false := by
  by_cases he : c = k
  · subst he
    rw [hc] at hk
    simp at hk
    obtain ⟨rfl, rfl⟩ := hk
    exact hl
  · have := (seq_lt hc hk (by omega)).1
    by_cases hh : hoist o' = true
    · rw [this hh] at hl; simp at hl
    · simpa using hh

theorem Walk.same_to (W : Walk E R ops s tr last) {j c : Nat} (hjc : j ≤ c) (hc : c ≤ (seqOf ops).length) (hn : ∀ (k : Nat) o i, (seqOf ops)[k]? = some (o, i) → j ≤ k → k < c → loudOp o = false) (hh : ∀ (k : Nat) o i, (seqOf ops)[k]? = some (o, i) → j ≤ k → hoist o = false) : (stAt tr last c).H = (stAt tr last j).H := by
  obtain ⟨d, rfl⟩ := Nat.exists_eq_add_of_le hjc
  exact W.same d j hc fun k o i hk a b => ⟨hn k o i hk a b, hh k o i hk a⟩

/-- The heap that an operation meets is among those that were tried. -/
theorem Walk.met (W : Walk E R ops s tr last) {i c : Nat} (hc : Cut ops c) (h1 : ∀ (k j : Nat) o, (seqOf ops)[k]? = some (o, j) → loudOp o = true → k < c → bit (befs ops) j i = false)
    (h2 : ∀ (k j : Nat) o, (seqOf ops)[k]? = some (o, j) → loudOp o = true → c ≤ k → bit (befs ops) i j = false) : ∀ (d j : Nat), j + d = c → (stAt tr last c).H ∈ heapsFor (befs ops) last.H i ((seqOf ops).drop j) (tr.drop j) := by
  intro d
  induction d with
  | zero =>
    intro j hj
    simp at hj
    subst hj
    rcases hc.2 with he | ⟨o, i', ho, hl⟩
    · rw [he, List.drop_eq_nil_of_le (Nat.le_refl _)]
      simp [heapsFor, W.fin]
    · have hlt : j < (seqOf ops).length := (List.getElem?_eq_some_iff.1 ho).1
      have hlt' : j < tr.length := by rw [W.len]; exact hlt
      have e1 : (seqOf ops)[j] = (o, i') := (List.getElem?_eq_some_iff.1 ho).2
      rw [List.drop_eq_getElem_cons hlt, List.drop_eq_getElem_cons hlt', e1]
      have e2 : (stAt tr last j) = (tr[j]).1 := by simp [stAt, hlt']
      rcases hx : tr[j] with ⟨s1, v1⟩
      rw [hx] at e2
      simp only [heapsFor, hl, if_true]
      split
      · simp [e2]
      · rw [h2 j i' o ho hl (Nat.le_refl _)]
        simp [e2]
  | succ d ih =>
    intro j hj
    have hlt : j < (seqOf ops).length := by have := hc.1; omega
    have hlt' : j < tr.length := by rw [W.len]; exact hlt
    obtain ⟨⟨o, i'⟩, ho⟩ : ∃ x, (seqOf ops)[j]? = some x := ⟨_, List.getElem?_eq_getElem hlt⟩
    have e1 : (seqOf ops)[j] = (o, i') := (List.getElem?_eq_some_iff.1 ho).2
    rw [List.drop_eq_getElem_cons hlt, List.drop_eq_getElem_cons hlt', e1]
    rcases hx : tr[j] with ⟨s1, v1⟩
    have := ih (j + 1) (by omega)
    simp only [heapsFor]
    split
    · rename_i hl
      rw [h1 j i' o ho hl (by omega)]
      simp only [Bool.false_eq_true, if_false]
      split
      · exact this
      · exact List.mem_cons_of_mem _ this
    · exact this

end
end Go.AX

/- AX, part 20: regions of open order are sound. -/
set_option linter.unusedVariables false
set_option linter.unusedSimpArgs false
namespace Go.AX
open Go Go.RowKit

section
variable {E : Env} {R : Rec} {ops : Array Oper} {s last : St} {tr : List (St × AV)}

/-- The memory, by what has been carried out. -/
inductive HeapAt (E : Env) (R : Rec) (ops : List Oper) (tr : List (St × AV)) (last : St) (S : Array Bool) (H : Heap) : Prop
  | cut (c : Nat) : Cut ops c → H = (stAt tr last c).H → (∀ (k : Nat) o i, (seqOf ops)[k]? = some (o, i) → loudOp o = true → (on S i ↔ k < c)) → HeapAt E R ops tr last S H
  | tail (a b pa : Nat) (oa : Oper) : (seqOf ops)[pa]? = some (oa, a) → on S b → ¬ on S a → Tail E R ops tr last a b → (∀ (k : Nat) o i, (seqOf ops)[k]? = some (o, i) → loudOp o = true → i ≠ a → on S i) →
      axOne E R ops oa ⟨(stAt tr last pa).T, H⟩ = some (valAt tr pa, last.H) → HeapAt E R ops tr last S H

structure Inv (E : Env) (R : Rec) (ops : List Oper) (s : St) (tr : List (St × AV)) (last : St) (B D : Nat) (Z0 : Nat → Prop) (w0 : World) (ρ0 : Rho) (S : Array Bool) (a : Act) (w : World) : Prop where
  size : S.size = ops.length
  closed : ∀ i, on S i → ∀ j, bit (befs ops) i j = true → on S j
  rest : ∃ Z ρ T H, Ext B Z0 w0 ρ0 s.H.length Z w ρ ∧ RelA Z w ρ T a.tmps ∧ HRel B Z w ρ H ∧ DefOK D w a.defers ∧ s.H.length ≤ H.length ∧
    TmpBy (seqOf ops) (valAt tr) s.T (fun k => ∃ o i, (seqOf ops)[k]? = some (o, i) ∧ on S i) T ∧ HeapAt E R ops tr last S H ∧
    (∀ (k : Nat) o i, (seqOf ops)[k]? = some (o, i) → hoist o = true → s.H.length + k < H.length ∧ (¬ on S i → ρ (s.H.length + k) = none))

theorem hoist_at (W : Walk E R ops.toList s tr last) : ∀ (k : Nat) (o : Oper) (i : Nat), (seqOf ops.toList)[k]? = some (o, i) → hoist o = true →
    (stAt tr last k).H.length = s.H.length + k ∧ (∀ id, id < s.H.length → (stAt tr last k).H[id]? = s.H[id]?) ∧ valAt tr k = .ptr (s.H.length + k) 0 ∧ (stAt tr last (k + 1)).H.length = s.H.length + k + 1 ∧ (∀ id, id < s.H.length → (stAt tr last (k + 1)).H[id]? = s.H[id]?) := by
  intro k
  induction k with
  | zero =>
    intro o i hk hh
    obtain ⟨t, h1, h2, h3⟩ := hoist_alloc hh
    have hs := (W.step 0 o i hk).1
    rw [W.first] at hs
    have := alloc_step hs h1 h3
    rw [W.first]
    obtain ⟨cs, g1, g2, _⟩ := this
    exact ⟨by simp, fun _ _ => rfl, by simpa using g1, by rw [g2]; simp, fun id hid => by rw [g2]; exact List.getElem?_append_left hid⟩
  | succ k ih =>
    intro o i hk hh
    obtain ⟨t, h1, h2, h3⟩ := hoist_alloc hh
    have hlt : k < (seqOf ops.toList).length := by have := (List.getElem?_eq_some_iff.1 hk).1; omega
    obtain ⟨⟨o', i'⟩, ho⟩ : ∃ x, (seqOf ops.toList)[k]? = some x := ⟨_, List.getElem?_eq_getElem hlt⟩
    have hh' := (seq_lt ho hk (Nat.lt_succ_self k)).1 hh
    obtain ⟨_, _, _, g4, g5⟩ := ih o' i' ho hh'
    obtain ⟨cs, q1, q2, _⟩ := alloc_step (W.step (k + 1) o i hk).1 h1 h3
    refine ⟨by omega, g5, by rw [q1, g4]; rfl, by rw [q2]; simp; omega, fun id hid => ?_⟩
    rw [q2, List.getElem?_append_left (by omega)]
    exact g5 id hid
where
  alloc_step {o : Oper} {s1 : St} {v : AV} {H' : Heap} {t : TypeId} (h : axOne E R ops.toList o s1 = some (v, H')) (h1 : o.op = .alloc t) (h3 : o.guard = none) :
      ∃ z, v = .ptr s1.H.length 0 ∧ H' = s1.H ++ [.cells z.cells] ∧ z.cells.all oneCell = true ∧ zeroT E.P t = some z := by
    unfold axOne wantedA at h
    rw [h3] at h
    simp only [if_true] at h
    unfold axOp at h
    rw [h1] at h
    simp only at h
    split at h <;> try (simp at h; done)
    rename_i z hz
    split at h <;> try (simp at h; done)
    rename_i id H2 hn
    simp only [Option.some.injEq, Prod.mk.injEq] at h
    obtain ⟨rfl, rfl⟩ := h
    unfold newA at hn
    split at hn <;> try (simp at hn; done)
    rename_i hone
    simp at hn
    obtain ⟨rfl, rfl⟩ := hn
    exact ⟨z, rfl, rfl, hone, hz⟩

/-- The start. -/
theorem inv_start (W : Walk E R ops.toList s tr last) {B D : Nat} {Z : Nat → Prop} {w : World} {ρ : Rho} {a : Act} (hT : RelA Z w ρ s.T a.tmps) (hH : HRel B Z w ρ s.H) (hD : DefOK D w a.defers) :
    Inv E R ops.toList s tr last B D Z w ρ (Array.replicate ops.size false) a w.drew := by
  have hoff : ∀ i, ¬ on (Array.replicate ops.size false) i := by
    intro i h
    unfold on at h
    by_cases hi : i < ops.size <;> simp [Array.getD, hi] at h
  obtain ⟨c, _, hc, hnl⟩ := next_loud ops.toList (seqOf ops.toList).length 0 (by simp)
  -- memory up to the first loud one
  have hmem : ∀ j, j ≤ c → s.H.length ≤ (stAt tr last j).H.length ∧ (∀ id, id < s.H.length → (stAt tr last j).H[id]? = s.H[id]?) ∧ (∀ (k : Nat) o i, (seqOf ops.toList)[k]? = some (o, i) → hoist o = true → k < j → s.H.length + k < (stAt tr last j).H.length) := by
    intro j
    induction j with
    | zero => intro _; rw [W.first]; exact ⟨Nat.le_refl _, fun _ _ => rfl, fun k o i _ _ h => by omega⟩
    | succ j ih =>
      intro hj
      have hlt : j < (seqOf ops.toList).length := by have := hc.1; omega
      obtain ⟨⟨o', i'⟩, ho⟩ : ∃ x, (seqOf ops.toList)[j]? = some x := ⟨_, List.getElem?_eq_getElem hlt⟩
      obtain ⟨g1, g2, g3⟩ := ih (by omega)
      by_cases hh : hoist o' = true
      · obtain ⟨_, _, _, q4, q5⟩ := hoist_at W j o' i' ho hh
        exact ⟨by omega, q5, fun k o i hk hho hlt => by omega⟩
      · have hq := axOne_quiet_heap (quiet_of (hnl j o' i' ho (Nat.zero_le _) (by omega)) (by simpa using hh)) (W.step j o' i' ho).1
        rw [hq]
        refine ⟨g1, g2, fun k o i hk hho hlt => g3 k o i hk hho ?_⟩
        by_cases he : k = j
        · subst he
          rw [ho] at hk
          simp at hk
          obtain ⟨rfl, rfl⟩ := hk
          exact absurd hho hh
        · omega
  obtain ⟨m1, m2, m3⟩ := hmem c (Nat.le_refl _)
  refine ⟨by simp, fun i hi => absurd hi (hoff i), Z, ρ, s.T, (stAt tr last c).H, Ext.drew _, ?_, ?_, ?_, m1, TmpBy.start _ _ _ (fun k o i hk ⟨o', i', _, h⟩ => hoff _ h), .cut c hc rfl (fun k o i hk hl => ?_), fun k o i hk hh => ⟨?_, fun _ => ?_⟩⟩
  · exact RelA.heap (w := w) (w' := w.drew) rfl hT
  · refine hH.drew.widen (fun id x hx => m2 id (hH.dom id x hx)) m1
  · exact hD.mono (Ext.drew (B := B) (Z := Z) (ρ := ρ) 0)
  · refine ⟨fun h => absurd h (hoff i), fun h => ?_⟩
    have := hnl k o i hk (Nat.zero_le _) h
    rw [hl] at this
    simp at this
  · refine m3 k o i hk hh ?_
    rcases hc.2 with he | ⟨o', i', ho', hl'⟩
    · rw [he]; exact (List.getElem?_eq_some_iff.1 hk).1
    · rcases Nat.lt_or_ge k c with h | h
      · exact h
      · have := not_hoist_behind ho' (loud_not_hoist hl') hk h
        rw [hh] at this
        simp at this
  · cases hr : ρ (s.H.length + k) with
    | none => rfl
    | some x => have := hH.dom _ _ hr; omega


theorem quiet_one {T : List AV} {H H' : Heap} {o : Oper} {r : AV} (hq : quietOp o.op = true) (h1 : ∀ t a, o.op ≠ .load t a) (h2 : ∀ t x l u m, o.op ≠ .slice t x l u m) (h : axOne E R ops.toList o ⟨T, H⟩ = some (r, H')) (K : Heap) : axOne E R ops.toList o ⟨T, K⟩ = some (r, K) := by
  unfold axOne at h ⊢
  simp only at h ⊢
  split at h
  · rename_i hw; rw [if_pos hw]; exact quiet_frame hq h1 h2 h K
  · rename_i hw; rw [if_neg hw]; simp only [Option.some.injEq, Prod.mk.injEq] at h; rw [h.1]

theorem store_one {T : List AV} {H H' : Heap} {o : Oper} {r : AV} {x : Nat} (hid : ∀ K, storeId o ⟨T, K⟩ = some x) (hg : o.guard = none) (h : axOne E R ops.toList o ⟨T, H⟩ = some (r, H')) :
    r = .undef ∧ ∃ t off v, storeA E.P H t (.ptr x off) v = some H' ∧ ∀ K K', storeA E.P K t (.ptr x off) v = some K' → axOne E R ops.toList o ⟨T, K⟩ = some (.undef, K') := by
  have hs := hid H
  unfold storeId at hs
  split at hs <;> try (simp at hs; done)
  rename_i t a v hop
  split at hs <;> try (simp at hs; done)
  rename_i id off hev
  simp at hs
  subst hs
  simp only at hev
  have hone : ∀ K, axOne E R ops.toList o ⟨T, K⟩ = axOp E R T K o := by
    intro K
    unfold axOne wantedA
    rw [hg]
    simp
  rw [hone] at h
  unfold axOp at h
  rw [hop] at h
  simp only [hev] at h
  split at h <;> try (simp at h; done)
  rename_i vp vv hvv hvv'
  simp at hvv
  subst hvv
  split at h <;> try (simp at h; done)
  rename_i H2 hst
  simp only [Option.some.injEq, Prod.mk.injEq] at h
  obtain ⟨rfl, rfl⟩ := h
  refine ⟨rfl, t, off, vv, hst, fun K K' hk => ?_⟩
  rw [hone]
  unfold axOp
  rw [hop]
  simp only [hev, hvv', hk]

theorem storeId_congr {o : Oper} {s1 : St} {x : Nat} (h : storeId o s1 = some x) (K : Heap) : storeId o ⟨s1.T, K⟩ = some x := h

/-- One operation that is not hoisted, in whatever memory it may meet. -/
theorem step_heap (W : Walk E R ops.toList s tr last) {S : Array Bool} {H : Heap} (hH : HeapAt E R ops.toList tr last S H) {k i : Nat} {o : Oper} (hk : (seqOf ops.toList)[k]? = some (o, i)) (hsz : i < S.size) (hoff : ¬ on S i)
    (closed : ∀ i, on S i → ∀ j, bit (befs ops.toList) i j = true → on S j) (rc : ∀ j, bit (befs ops.toList) i j = true → on S j) (hh : hoist o = false) :
    ∃ H', axOne E R ops.toList o ⟨(stAt tr last k).T, H⟩ = some (valAt tr k, H') ∧ HeapAt E R ops.toList tr last (S.setIfInBounds i true) H' := by
  have hstep := (W.step k o i hk).1
  have hoks := W.ok k o i hk
  have keepS : ∀ {k' j : Nat} {o' : Oper}, (seqOf ops.toList)[k']? = some (o', j) → loudOp o' = true → loudOp o = false → (on (S.setIfInBounds i true) j ↔ on S j) := by
    intro k' j o' hk' hl hl'
    rw [on_set hsz]
    refine ⟨fun h => h.elim id fun he => ?_, .inl⟩
    subst he
    have := seq_inj hk hk'
    subst this
    rw [hk] at hk'
    simp at hk'
    subst hk'
    rw [hl'] at hl
    simp at hl
  by_cases hl : loudOp o = true
  · -- a loud one
    cases hH with
    | cut c hc hHc hon =>
      have hck : c ≤ k := by
        rcases Nat.lt_or_ge k c with h | h
        · exact absurd ((hon k o i hk hl).2 h) hoff
        · exact h
      rcases hc.2 with he | ⟨oc, ic, hoc, hlc⟩
      · have := (List.getElem?_eq_some_iff.1 hk).1; omega
      by_cases hkc : k = c
      · subst hkc
        subst hHc
        refine ⟨_, hstep, ?_⟩
        obtain ⟨c', g1, g2, g3⟩ := next_loud ops.toList ((seqOf ops.toList).length - (k + 1)) (k + 1) (by have := (List.getElem?_eq_some_iff.1 hk).1; omega)
        refine .cut c' g2 (W.same_to g1 g2.1 g3 (fun k2 o2 i2 hk2 hle => not_hoist_behind hk (loud_not_hoist hl) hk2 (by omega))).symm fun k2 o2 i2 hk2 hl2 => ?_
        rw [on_set hsz]
        constructor
        · rintro (h | rfl)
          · have := (hon k2 o2 i2 hk2 hl2).1 h; omega
          · have := seq_inj hk hk2; omega
        · intro hlt
          rcases Nat.lt_trichotomy k2 k with h | h | h
          · exact .inl ((hon k2 o2 i2 hk2 hl2).2 h)
          · subst h
            rw [hk] at hk2
            simp at hk2
            exact .inr hk2.2.symm
          · have := g3 k2 o2 i2 hk2 (by omega) hlt
            rw [hl2] at this
            simp at this
      · -- the last of two stores, first
        have hlt : c < k := by omega
        have hicoff : ¬ on S ic := fun h => by have := (hon c oc ic hoc hlc).1 h; omega
        rcases W.ord c k ic i oc o hoc hk hlc hl hlt with hb | htail
        · exact absurd (rc ic hb) hicoff
        · have htail' := htail
          obtain ⟨⟨pa, pb, p, q, x, y, t1, t2, t3, t4, t5, t6, t7⟩, tl, to⟩ := htail
          have hpa := seq_inj t1 hoc
          subst hpa
          rw [t1] at hoc
          simp at hoc
          subst hoc
          have hpb := seq_inj t2 hk
          subst hpb
          rw [t2] at hk
          simp at hk
          subst hk
          have hother : ∀ (k2 : Nat) o2 i2, (seqOf ops.toList)[k2]? = some (o2, i2) → loudOp o2 = true → k2 ≠ pa → k2 ≠ pb → k2 < pa := by
            intro k2 o2 i2 hk2 hl2 ha hb
            refine (hon k2 o2 i2 hk2 hl2).1 (rc i2 (to k2 i2 o2 hk2 hl2 ?_ ?_))
            · intro e; subst e; exact ha (seq_inj hk2 t1)
            · intro e; subst e; exact hb (seq_inj hk2 t2)
          have hlenb : pb < (seqOf ops.toList).length := (List.getElem?_eq_some_iff.1 t2).1
          have hbehind : ∀ (k2 : Nat) o2 i2, (seqOf ops.toList)[k2]? = some (o2, i2) → pa ≤ k2 → hoist o2 = false := fun k2 o2 i2 hk2 hle => not_hoist_behind t1 (loud_not_hoist hlc) hk2 hle
          have hbet : (stAt tr last pb).H = (stAt tr last (pa + 1)).H := W.same_to hlt (by omega) (fun k2 o2 i2 hk2 g1 g2 => by
            by_cases hl2 : loudOp o2 = true
            · have := hother k2 o2 i2 hk2 hl2 (by omega) (by omega); omega
            · simpa using hl2) (fun k2 o2 i2 hk2 g => hbehind k2 o2 i2 hk2 (by omega))
          have hend : last.H = (stAt tr last (pb + 1)).H := by
            have hfin := W.same_to hlenb (Nat.le_refl _) (fun k2 o2 i2 hk2 g1 g2 => by
              by_cases hl2 : loudOp o2 = true
              · have := hother k2 o2 i2 hk2 hl2 (by omega) (by omega); omega
              · simpa using hl2) (fun k2 o2 i2 hk2 g => hbehind k2 o2 i2 hk2 (by omega))
            rw [W.fin] at hfin
            exact hfin
          have sa := (W.step pa p ic t1).1
          obtain ⟨hva, ta, oa, va, ga, ka⟩ := store_one (H := (stAt tr last pa).H) (fun K => storeId_congr t3 K) t6 sa
          obtain ⟨hvb, tb, ob, vb, gb, kb⟩ := store_one (H := (stAt tr last pb).H) (fun K => storeId_congr t4 K) t7 hstep
          rw [hbet] at gb
          obtain ⟨K, q1, q2⟩ := storeA_comm ga gb t5
          subst hHc
          refine ⟨K, by rw [hvb]; exact kb _ K q1, ?_⟩
          refine .tail ic i pa p t1 ((on_set hsz).2 (.inr rfl)) (fun h => ?_) htail' (fun k2 o2 i2 hk2 hl2 hne => (on_set hsz).2 ?_) (by rw [hva, hend]; exact ka K _ q2)
          · rcases (on_set hsz).1 h with h | h
            · exact hicoff h
            · subst h; have := seq_inj t1 t2; omega
          · by_cases hi2 : i2 = i
            · exact .inr hi2
            · exact .inl (rc i2 (to k2 i2 o2 hk2 hl2 hne hi2))
    | tail a b pa oa g1 g2 g3 g4 g5 g6 =>
      have hia : i = a := by
        by_cases h : i = a
        · exact h
        · exact absurd (g5 k o i hk hl h) hoff
      subst hia
      have := seq_inj hk g1
      subst this
      rw [hk] at g1
      simp at g1
      subst g1
      refine ⟨last.H, g6, .cut (seqOf ops.toList).length ⟨Nat.le_refl _, .inl rfl⟩ (by rw [W.fin]) fun k2 o2 i2 hk2 hl2 => ⟨fun _ => (List.getElem?_eq_some_iff.1 hk2).1, fun _ => (on_set hsz).2 ?_⟩⟩
      by_cases h : i2 = i
      · exact .inr h
      · exact .inl (g5 k2 o2 i2 hk2 hl2 h)
  · -- a quiet one
    have hl' : loudOp o = false := by simpa using hl
    have hq := quiet_of hl' hh
    have hat : HeapAt E R ops.toList tr last (S.setIfInBounds i true) H := by
      cases hH with
      | cut c hc hHc hon => exact .cut c hc hHc fun k2 o2 i2 hk2 hl2 => by rw [keepS hk2 hl2 hl']; exact hon k2 o2 i2 hk2 hl2
      | tail a b pa oa g1 g2 g3 g4 g5 g6 =>
        refine .tail a b pa oa g1 ((on_set hsz).2 (.inl g2)) (fun h => ?_) g4 (fun k2 o2 i2 hk2 hl2 hne => (on_set hsz).2 (.inl (g5 k2 o2 i2 hk2 hl2 hne))) g6
        rcases (on_set hsz).1 h with h | h
        · exact g3 h
        · -- the store itself is loud
          subst h
          obtain ⟨⟨pa', pb', p, q, x, y, t1, t2, t3, t4, t5, t6, t7⟩, tl, to⟩ := g4
          have e1 := seq_inj t1 hk
          subst e1
          rw [t1] at hk
          simp at hk
          subst hk
          unfold storeId at t3
          split at t3
          · rename_i hop
            rw [hop] at hq
            simp [quietOp] at hq
          · simp at t3
    refine ⟨H, ?_, hat⟩
    by_cases hrd : (∃ t x, o.op = .load t x) ∨ (∃ t x l u m, o.op = .slice t x l u m)
    · cases hH with
      | cut c hc hHc hon =>
        have hm := W.met (i := i) hc (fun k2 j o2 hk2 hl2 hlt => by
          cases hb : bit (befs ops.toList) j i with
          | false => rfl
          | true => exact absurd (closed j ((hon k2 o2 j hk2 hl2).2 hlt) i hb) hoff) (fun k2 j o2 hk2 hl2 hle => by
          cases hb : bit (befs ops.toList) i j with
          | false => rfl
          | true => have := (hon k2 o2 j hk2 hl2).1 (rc j hb); omega) c 0 (by simp)
        rw [← hHc] at hm
        have hokh := hoks.heaps hl' H (by simpa using hm)
        unfold okHeap at hokh
        rw [hh] at hokh
        simp only [Bool.false_eq_true, if_false] at hokh
        have hgo : (match axOne E R ops.toList o ⟨(stAt tr last k).T, H⟩ with | some (u, _) => AV.beq u (valAt tr k) | none => false) = true := by
          rcases hrd with ⟨t, x, ho⟩ | ⟨t, x, l, u, m, ho⟩ <;> rw [ho] at hokh <;> exact hokh
        split at hgo <;> try (simp at hgo; done)
        rename_i u H2 hu
        rw [hu, AV.beq_eq _ _ hgo, axOne_quiet_heap hq hu]
      | tail a b pa oa g1 g2 g3 g4 g5 g6 =>
        have hb := g4.2.1 i o (seq_get hk) (hrd.elim .inl fun h => .inr (.inl h))
        exact absurd (closed b g2 i hb) hoff
    · exact quiet_one hq (fun t a h => hrd (.inl ⟨t, a, h⟩)) (fun t x l u m h => hrd (.inr ⟨t, x, l, u, m, h⟩)) hstep H


theorem run_alloc {P : Program} {t : TypeId} {z : AV} (hz : zeroT P t = some z) {o : Oper} (ho : o.op = .alloc t) (ρ : Operand → Value) (w : World) :
    ∃ zv, ofValue zv = some z ∧ (execOp ρ o).run P w = .ok (.value (.pointer (some ⟨w.heap.size, 0, none⟩))) (w.alloc (.cells zv.cells t)) := by
  obtain ⟨zv, hzr, hzv⟩ := run_zero' hz w
  refine ⟨zv, hzv, ?_⟩
  unfold execOp
  rw [ho]
  simp only [Instr.alloc, Sem.run_bind, hzr, Result.andThen_ok, newVar, newRow, run_newObj, Sem.run_pure, World.alloc_eq]

theorem off_of {S : Array Bool} {i : Nat} (h : S.getD i true = false) : ¬ on S i := by
  unfold on
  intro h'
  rw [Array.getD_eq_getD_getElem?] at h h'
  cases hs : S[i]? with
  | none => rw [hs] at h; simp at h
  | some b => rw [hs] at h h'; simp at h h'; rw [h] at h'; simp at h'

theorem getD_of_off {S : Array Bool} {i : Nat} (hi : i < S.size) (h : ¬ on S i) : S.getD i true = false := by
  unfold on at h
  rw [Array.getD_eq_getD_getElem?] at h ⊢
  rw [Array.getElem?_eq_getElem hi] at h ⊢
  simpa using h

/-- One operation, whichever comes next. -/
theorem inv_step (hP : ProgOK E.P) (hC : CallOK E.P R.call) (hR : RoundOK E.P R.round) (W : Walk E R ops.toList s tr last) {B D : Nat} {Z0 : Nat → Prop} {w0 : World} {ρ0 : Rho} {S : Array Bool} {a : Act} {w : World}
    (hI : Inv E R ops.toList s tr last B D Z0 w0 ρ0 S a w) {i : Nat} (hi : i ∈ Region.ready .any ops S) {ro : Option Nat} {m : Nat} {K : Act → World → Prop} {Q : Exit → Act → World → Prop}
    (hK : ∀ a' w', Inv E R ops.toList s tr last B D Z0 w0 ρ0 (S.setIfInBounds i true) a' w' → K a' w') : wpOpIn (FW ro) m E.P ops Q i K a w := by
  obtain ⟨hun, o, ho, hdep⟩ := mem_ready.1 hi
  have hio : ops.toList[i]? = some o := by rw [Array.getElem?_toList]; exact ho
  obtain ⟨k, hk⟩ := seq_has hio
  have hsz : i < S.size := by
    rw [hI.size]
    exact (List.getElem?_eq_some_iff.1 hio).1
  have hoff : ¬ on S i := off_of hun
  have rc : ∀ j, bit (befs ops.toList) i j = true → on S j := by
    intro j hj
    obtain ⟨e, g1, g2, g3⟩ := bit_spec hio hj
    have he : on S e.on := hdep e (by simpa using g1) g2
    rcases g3 with rfl | ⟨_, g5⟩
    · exact he
    · exact hI.closed e.on he j g5
  have hoks := W.ok k o i hk
  obtain ⟨Z, ρ, T, H, e, hT, hH, hD, hlen, hTmp, hAt, hPend⟩ := hI.rest
  have hksz : k ≤ (seqOf ops.toList).length := Nat.le_of_lt (List.getElem?_eq_some_iff.1 hk).1
  have hcongr : ∀ H', axOne E R ops.toList o ⟨T, H'⟩ = axOne E R ops.toList o ⟨(stAt tr last k).T, H'⟩ := by
    intro H'
    refine axOne_congr fun t ht => hTmp.agree (W.tmps k hksz) fun k' p j hk' hd => ?_
    have hon : (∃ o i, (seqOf ops.toList)[k']? = some (o, i) ∧ on S i) ↔ on S j := by
      refine ⟨fun ⟨o1, i1, h1, h2⟩ => ?_, fun h => ⟨p, j, hk', h⟩⟩
      rw [hk'] at h1
      simp at h1
      rw [h1.2]; exact h2
    rw [hon]
    rcases hoks.look t ht j p (seq_get hk') hd with rfl | h | h
    · have := seq_inj hk hk'
      subst this
      exact ⟨fun h => absurd h hoff, fun h => absurd h (Nat.lt_irrefl _)⟩
    · exact ⟨fun _ => W.bit_pos hk hk' h, fun _ => rc j h⟩
    · have := W.bit_pos hk' hk h
      exact ⟨fun h2 => absurd (hI.closed j h2 i h) hoff, fun h2 => by omega⟩
  have hclosed' : ∀ x, on (S.setIfInBounds i true) x → ∀ j, bit (befs ops.toList) x j = true → on (S.setIfInBounds i true) j := by
    intro x hx j hj
    rcases (on_set hsz).1 hx with h | rfl
    · exact (on_set hsz).2 (.inl (hI.closed x h j hj))
    · exact (on_set hsz).2 (.inl (rc j hj))
  have hTmp' : TmpBy (seqOf ops.toList) (valAt tr) s.T (fun k => ∃ o i', (seqOf ops.toList)[k]? = some (o, i') ∧ on (S.setIfInBounds i true) i') (put T o.dst (valAt tr k)) := by
    refine hTmp.put hk (fun d hd k' p j hk' hd' => ?_) (fun j => ?_)
    · have := hoks.uniq d hd j p (seq_get hk') hd'
      subst this
      exact seq_inj hk' hk
    · constructor
      · rintro ⟨o1, i1, h1, h2⟩
        rcases (on_set hsz).1 h2 with h | rfl
        · exact .inl ⟨o1, i1, h1, h⟩
        · exact .inr (seq_inj h1 hk)
      · rintro (⟨o1, i1, h1, h2⟩ | rfl)
        · exact ⟨o1, i1, h1, (on_set hsz).2 (.inl h2)⟩
        · exact ⟨o, i, hk, (on_set hsz).2 (.inr rfl)⟩
  by_cases hh : hoist o = true
  · -- a variable
    obtain ⟨t, hop, hafter, hguard⟩ := hoist_alloc hh
    obtain ⟨l1, _, l3, _, _⟩ := hoist_at W k o i hk hh
    obtain ⟨z, hz⟩ : ∃ z, zeroT E.P t = some z ∧ z.cells.all oneCell = true := by
      obtain ⟨z, _, _, g3, g4⟩ := hoist_at.alloc_step (W.step k o i hk).1 hop hguard
      exact ⟨z, g4, g3⟩
    obtain ⟨hz, hone⟩ := hz
    obtain ⟨p1, p2⟩ := hPend k o i hk hh
    have hcell : H[s.H.length + k]? = some (.cells z.cells) := by
      cases hAt with
      | cut c hc hHc hon =>
        have hm1 : ∀ (k j : Nat) o, (seqOf ops.toList)[k]? = some (o, j) → loudOp o = true → k < c → bit (befs ops.toList) j i = false := by
          intro k2 j o2 hk2 hl2 hlt
          cases hb : bit (befs ops.toList) j i with
          | false => rfl
          | true => exact absurd (hI.closed j ((hon k2 o2 j hk2 hl2).2 hlt) i hb) hoff
        have hm2 : ∀ (k j : Nat) o, (seqOf ops.toList)[k]? = some (o, j) → loudOp o = true → c ≤ k → bit (befs ops.toList) i j = false := by
          intro k2 j o2 hk2 hl2 hle
          cases hb : bit (befs ops.toList) i j with
          | false => rfl
          | true => have := (hon k2 o2 j hk2 hl2).1 (rc j hb); omega
        have hm := W.met (i := i) hc hm1 hm2 c 0 (by simp)
        rw [← hHc] at hm
        have hokh := hoks.heaps (hoist_not_loud hh) H (by simpa using hm)
        unfold okHeap at hokh
        rw [hh, l3] at hokh
        simp only [if_true, hop, Bool.and_eq_true] at hokh
        obtain ⟨_, hokh⟩ := hokh
        split at hokh <;> try (simp at hokh; done)
        rename_i t' cs ht' hcs
        rw [hcs]
        simp at ht'
        subst ht'
        rw [hz] at hokh
        simp only at hokh
        rw [AV.beqL_eq _ _ hokh]
      | tail a b pa oa g1 g2 g3 g4 g5 g6 =>
        have hb := g4.2.1 i o (seq_get hk) (.inr (.inr ⟨t, hop⟩))
        exact absurd (hI.closed b g2 i hb) hoff
    have hAt' : HeapAt E R ops.toList tr last (S.setIfInBounds i true) H := by
      have other : ∀ {k2 i2 : Nat} {o2 : Oper}, (seqOf ops.toList)[k2]? = some (o2, i2) → loudOp o2 = true → i2 ≠ i := by
        intro k2 i2 o2 hk2 hl2 he
        subst he
        have := seq_inj hk hk2
        subst this
        rw [hk] at hk2
        simp at hk2
        subst hk2
        rw [hoist_not_loud hh] at hl2
        simp at hl2
      cases hAt with
      | cut c hc hHc hon =>
        refine .cut c hc hHc fun k2 o2 i2 hk2 hl2 => ?_
        rw [on_set hsz, ← hon k2 o2 i2 hk2 hl2]
        exact ⟨fun h => h.elim id fun he => absurd he (other hk2 hl2), .inl⟩
      | tail a b pa oa g1 g2 g3 g4 g5 g6 =>
        have hb := g4.2.1 i o (seq_get hk) (.inr (.inr ⟨t, hop⟩))
        exact absurd (hI.closed b g2 i hb) hoff
    obtain ⟨zv, hzv, hrun⟩ := run_alloc hz hop a.eval w
    obtain ⟨hH', mono⟩ := hH.late (p2 hoff) hcell t (cells_rel (rel_ofValue (Z := Z) (w := w) (ρ := ρ) hzv)) hone
    unfold wpOpIn
    rw [ho]
    simp only
    have hw : Region.wanted o (yielded ops a.tmps) = true := by unfold Region.wanted; rw [hguard]
    rw [if_pos hw]
    refine ⟨fun _ _ => trivial, ?_⟩
    rw [Oper.semAt_eq _ _ _ (fun c h => by rw [hop] at h; simp at h), hrun, Oper.uponIn_value]
    refine hK _ _ ⟨by simp [hI.size], hclosed', Z, upd ρ (s.H.length + k) (w.heap.size, 0), put T o.dst (valAt tr k), H, ?_, ?_, hH', ?_, hlen, hTmp', hAt', ?_⟩
    · exact e.trans (Ext.alloc hH _ fun id hid => by simp [upd]; omega) (Nat.le_refl _)
    · refine put_relA ⟨hT.1, fun i hi hi' => mono (hT.2 i hi hi')⟩ o.dst ?_
      rw [l3]
      exact .ptr (base := 0) (upd_same ..)
    · rw [put_defers]
      exact hD.mono (Ext.alloc (n := 0) (ρ' := ρ) hH _ (fun _ _ => rfl))
    · intro k2 o2 i2 hk2 hh2
      obtain ⟨r1, r2⟩ := hPend k2 o2 i2 hk2 hh2
      refine ⟨r1, fun hno => ?_⟩
      have hne : k2 ≠ k := by
        intro he
        subst he
        rw [hk] at hk2
        simp at hk2
        exact hno ((on_set hsz).2 (.inr hk2.2.symm))
      have hid : s.H.length + k2 ≠ s.H.length + k := by omega
      simp only [upd, hid, if_false]
      exact r2 fun h => hno ((on_set hsz).2 (.inl h))
  · -- another
    obtain ⟨H', h1, h2⟩ := step_heap W hAt hk hsz hoff hI.closed rc (by simpa using hh)
    refine one_ok hP hC hR ho hT hH ((hcongr H).trans h1) fun v w' Z' ρ' e1 hH1 hr1 hl => ?_
    refine hK _ _ ⟨by simp [hI.size], hclosed', Z', ρ', put T o.dst (valAt tr k), H', e.trans e1 hlen, put_relA (hT.mono e1 hH.dom) _ hr1, hH1, ?_, by omega, hTmp', h2, ?_⟩
    · rw [put_defers]; exact hD.mono e1
    · intro k2 o2 i2 hk2 hh2
      obtain ⟨r1, r2⟩ := hPend k2 o2 i2 hk2 hh2
      refine ⟨by omega, fun hno => ?_⟩
      rw [e1.rho _ r1]
      exact r2 fun h => hno ((on_set hsz).2 (.inl h))

/-- How many are still to come. -/
def left (S : Array Bool) (n : Nat) : Nat := ((List.range n).filter fun i => S.getD i false == false).length

theorem filter_lt {α : Type} (p q : α → Bool) : ∀ (l : List α), (∀ x ∈ l, q x = true → p x = true) → (∃ x ∈ l, p x = true ∧ q x = false) → (l.filter q).length < (l.filter p).length
  | [], _, ⟨x, hx, _⟩ => by simp at hx
  | y :: l, h, ⟨x, hx, h1, h2⟩ => by
    have hle : ∀ (l : List α), (∀ x ∈ l, q x = true → p x = true) → (l.filter q).length ≤ (l.filter p).length := by
      intro l
      induction l with
      | nil => intro _; simp
      | cons z l ih =>
        intro h
        have := ih fun x hx => h x (by simp [hx])
        by_cases hq : q z = true
        · simp [hq, h z (by simp) hq]; exact this
        · by_cases hp : p z = true
          · simp [hq, hp]; omega
          · simp [hq, hp]; exact this
    rcases List.mem_cons.1 hx with rfl | hx
    · have := hle l fun x hx => h x (by simp [hx])
      simp [h1, h2]
      omega
    · have := filter_lt p q l (fun x hx => h x (by simp [hx])) ⟨x, hx, h1, h2⟩
      by_cases hq : q y = true
      · simp [hq, h y (by simp) hq]; exact this
      · by_cases hp : p y = true
        · simp [hq, hp]; omega
        · simp [hq, hp]; exact this

theorem left_lt {S : Array Bool} {i n : Nat} (hi : i < S.size) (hn : i < n) (hoff : ¬ on S i) : left (S.setIfInBounds i true) n < left S n := by
  refine filter_lt _ _ _ (fun x _ hx => ?_) ⟨i, by simpa using hn, ?_, ?_⟩
  · cases h : S.getD x false with
    | false => rfl
    | true =>
      have : on (S.setIfInBounds i true) x := (on_set hi).2 (.inl h)
      unfold on at this
      rw [this] at hx
      simp at hx
  · unfold on at hoff
    simpa using hoff
  · have : on (S.setIfInBounds i true) i := (on_set hi).2 (.inr rfl)
    unfold on at this
    simp [this]

theorem all_on (W : Walk E R ops.toList s tr last) {S : Array Bool} (hs : S.size = ops.toList.length) (hr : Region.ready .any ops S = []) : ∀ i, i < ops.size → on S i := by
  intro i
  induction i using Nat.strongRecOn with
  | _ i ih =>
    intro hi
    have hio : ops.toList[i]? = some ops[i] := by rw [Array.getElem?_toList]; simp [hi]
    obtain ⟨k, hk⟩ := seq_has hio
    have hoks := W.ok k _ i hk
    refine Classical.byContradiction fun hoff => ?_
    have hsz : i < S.size := by rw [hs]; simpa using hi
    have : i ∈ Region.ready .any ops S := mem_ready.2 ⟨?_, ops[i], by simp [hi], fun e he hb => ?_⟩
    · rw [hr] at this; simp at this
    · exact getD_of_off hsz hoff
    · have hlt := hoks.aft e (by simpa using he) hb
      exact ih e.on hlt (by omega)

theorem inv_end (W : Walk E R ops.toList s tr last) {B D : Nat} {Z0 : Nat → Prop} {w0 : World} {ρ0 : Rho} {S : Array Bool} {a : Act} {w : World} (hI : Inv E R ops.toList s tr last B D Z0 w0 ρ0 S a w) (hr : Region.ready .any ops S = []) :
    Post B D Z0 w0 ρ0 s.H.length last a w := by
  have hall := all_on W hI.size hr
  have hall' : ∀ {k i : Nat} {o : Oper}, (seqOf ops.toList)[k]? = some (o, i) → on S i := fun hk => hall _ (by have := (List.getElem?_eq_some_iff.1 (seq_get hk)).1; simpa using this)
  obtain ⟨Z, ρ, T, H, e, hT, hH, hD, hlen, hTmp, hAt, hPend⟩ := hI.rest
  have hTl : T = last.T := by
    have := W.tmps (seqOf ops.toList).length (Nat.le_refl _)
    rw [W.fin] at this
    exact hTmp.eq this fun k o i hk => ⟨fun _ => (List.getElem?_eq_some_iff.1 hk).1, fun _ => ⟨o, i, hk, hall' hk⟩⟩
  have hHl : H = last.H := by
    cases hAt with
    | cut c hc hHc hon =>
      rcases hc.2 with he | ⟨o, i, ho, hl⟩
      · rw [hHc, he, W.fin]
      · have := (hon c o i ho hl).1 (hall' ho); omega
    | tail a b pa oa g1 g2 g3 g4 g5 g6 => exact absurd (hall' g1) g3
  subst hTl
  subst hHl
  exact ⟨Z, ρ, e, hT, hH, hD, hlen⟩

theorem draw_ok (hP : ProgOK E.P) : DrawOK E := by
  intro R hC hR ops s s' h ro m B D Z w ρ a hT hH hD id
  obtain ⟨tr, W⟩ := walk_of h
  refine wpIn_region_any hP.mixed ?_
  have key : ∀ (fuel : Nat) (S : Array Bool) (a1 : Act) (w1 : World), left S ops.size ≤ fuel → Inv E R ops.toList s tr s' B D Z w ρ S a1 w1 →
      wpAnyIn (FW ro) m E.P .any ops (fun e a' w' => e = .normal ∧ Post B D Z w ρ s.H.length s' a' w') fuel S a1 w1 := by
    intro fuel
    induction fuel with
    | zero =>
      intro S a1 w1 hl hI
      have hr : Region.ready .any ops S = [] := by
        refine List.eq_nil_iff_forall_not_mem.2 fun i hi => ?_
        obtain ⟨hun, o, ho, _⟩ := mem_ready.1 hi
        have hlt : i < ops.size := (Array.getElem?_eq_some_iff.1 ho).1
        have hsz : i < S.size := by rw [hI.size]; simpa using hlt
        have : ¬ on S i := off_of hun
        have := left_lt hsz hlt this
        omega
      exact ⟨hr, rfl, inv_end W hI hr⟩
    | succ fuel ih =>
      intro S a1 w1 hl hI
      refine ⟨fun hr => ⟨rfl, inv_end W hI hr⟩, fun i hi => ?_⟩
      obtain ⟨hun, o, ho, _⟩ := mem_ready.1 hi
      have hlt : i < ops.size := (Array.getElem?_eq_some_iff.1 ho).1
      have hsz : i < S.size := by rw [hI.size]; simpa using hlt
      have hoff : ¬ on S i := off_of hun
      have := left_lt hsz hlt hoff
      exact inv_step hP hC hR W hI hi fun a' w' hI' => ih _ a' w' (by omega) hI'
  refine key ops.size _ a _ ?_ (inv_start W hT hH hD)
  unfold left
  exact Nat.le_trans (List.length_filter_le _ _) (by simp)

end

/-- The evaluator is sound. -/
theorem ax_sound {E : Env} (hP : ProgOK E.P) (hE : KnownOK E) (n : Nat) : RunOK E.P (axCode E n) := code_ok hP hE (draw_ok hP) n

end Go.AX

/- AX, part 21: runs without a fuel: for whatever fuel from some point on. -/
set_option linter.unusedVariables false
set_option linter.unusedSimpArgs false
namespace Go.AX
open Go Go.RowKit

/-- Code runs so, given fuel enough. -/
def Ev (E : Env) (c : Code) (s : St) (ex : Ex) (s' : St) : Prop := ∃ N, ∀ n, N ≤ n → axCode E n c s = some (ex, s')

/-- A region's operations run so, given fuel enough. -/
def EvR (E : Env) (ops os : List Oper) (s : St) (s' : St) : Prop := ∃ N, ∀ n, N ≤ n → axRun E (recOf E (axCode E n)) ops os s = some s'

/-- A call runs so. -/
def EvC (E : Env) (f : FuncId) (args : List AV) (H : Heap) (r : AV) (H' : Heap) : Prop := ∃ N, ∀ n, N ≤ n → axCall E (axCode E n) f args H = some (r, H')

/-- A function runs so. -/
def EvF (E : Env) (f : FuncId) (args : List AV) (H : Heap) (r : AV) (H' : Heap) : Prop := ∃ N, ∀ n, N ≤ n → axFn E (axCode E n) f args H = some (r, H')

section
variable {E : Env} {s s1 s2 : St} {ex : Ex}

theorem Ev.mk' {c : Code} (N : Nat) (h : ∀ n, N ≤ n → axCode E (n + 1) c s = some (ex, s1)) : Ev E c s ex s1 :=
  ⟨N + 1, fun n hn => by obtain ⟨m, rfl⟩ := Nat.exists_eq_add_of_le hn; rw [show N + 1 + m = (N + m) + 1 by omega]; exact h _ (by omega)⟩

theorem Ev.skip : Ev E .skip s .normal s := .mk' 0 fun n _ => rfl
theorem Ev.label {l : Nat} : Ev E (.label l) s .normal s := .mk' 0 fun n _ => rfl
theorem Ev.exit {id : Nat} : Ev E (.exit id) s (.exit id) s := .mk' 0 fun n _ => rfl
theorem Ev.goto {id : Nat} : Ev E (.goto id) s (.goto id) s := .mk' 0 fun n _ => rfl
theorem Ev.ret : Ev E .ret s .ret s := .mk' 0 fun n _ => rfl

theorem Ev.region {id : Nat} {ops : Array Oper} (h : EvR E ops.toList ops.toList s s1) : Ev E (.region id ops false) s .normal s1 := by
  obtain ⟨N, h⟩ := h
  refine .mk' N fun n hn => ?_
  simp only [axCode, Bool.false_eq_true, if_false, h n hn]

theorem Ev.draw {id : Nat} {ops : Array Oper} (h : ∃ N, ∀ n, N ≤ n → axDraw E (recOf E (axCode E n)) ops.toList s = some s1) : Ev E (.region id ops true) s .normal s1 := by
  obtain ⟨N, h⟩ := h
  refine .mk' N fun n hn => ?_
  simp only [axCode, if_true, h n hn]

theorem Ev.seq {a b : Code} (h1 : Ev E a s .normal s1) (h2 : Ev E b s1 ex s2) : Ev E (.seq a b) s ex s2 := by
  obtain ⟨N, h1⟩ := h1
  obtain ⟨M, h2⟩ := h2
  refine .mk' (max N M) fun n hn => ?_
  simp only [axCode, h1 n (by omega), h2 n (by omega)]

theorem Ev.seq_out {a b : Code} (h1 : Ev E a s ex s1) (hne : ex ≠ .normal) : Ev E (.seq a b) s ex s1 := by
  obtain ⟨N, h1⟩ := h1
  refine .mk' N fun n hn => ?_
  simp only [axCode, h1 n hn]
  cases ex with
  | normal => exact absurd rfl hne
  | _ => rfl

theorem Ev.cond_true {c : Operand} {x y : Code} (hc : ev s.T c = some (.bool true)) (h : Ev E x s ex s1) : Ev E (.cond c x y) s ex s1 := by
  obtain ⟨N, h⟩ := h
  refine .mk' N fun n hn => ?_
  simp only [axCode, hc, h n hn]

theorem Ev.cond_false {c : Operand} {x y : Code} (hc : ev s.T c = some (.bool false)) (h : Ev E y s ex s1) : Ev E (.cond c x y) s ex s1 := by
  obtain ⟨N, h⟩ := h
  refine .mk' N fun n hn => ?_
  simp only [axCode, hc, h n hn]

theorem Ev.block {id : Nat} {b : Code} (h : Ev E b s (.exit id) s1) : Ev E (.block id b) s .normal s1 := by
  obtain ⟨N, h⟩ := h
  refine .mk' N fun n hn => ?_
  simp only [axCode, h n hn, if_true]

theorem Ev.block_thru {id : Nat} {b : Code} (h : Ev E b s ex s1) (hne : ex ≠ .exit id) : Ev E (.block id b) s ex s1 := by
  obtain ⟨N, h⟩ := h
  refine .mk' N fun n hn => ?_
  simp only [axCode, h n hn]
  cases ex with
  | exit i => simp only [Ex.exit.injEq, ne_eq] at hne; simp [hne]
  | _ => rfl

theorem Ev.loop {b : Code} (h1 : Ev E b s .normal s1) (h2 : Ev E (.loop b) s1 ex s2) : Ev E (.loop b) s ex s2 := by
  obtain ⟨N, h1⟩ := h1
  obtain ⟨M, h2⟩ := h2
  refine .mk' (max N M) fun n hn => ?_
  simp only [axCode, h1 n (by omega), h2 n (by omega)]

theorem Ev.loop_out {b : Code} (h1 : Ev E b s ex s1) (hne : ex ≠ .normal) : Ev E (.loop b) s ex s1 := by
  obtain ⟨N, h1⟩ := h1
  refine .mk' N fun n hn => ?_
  simp only [axCode, h1 n hn]
  cases ex with
  | normal => exact absurd rfl hne
  | _ => rfl

theorem Ev.scope {b : Code} (h : Ev E b s ex s1) (hne : ∀ l, ex ≠ .goto l) : Ev E (.scope b) s ex s1 := by
  obtain ⟨N, h⟩ := h
  refine .mk' N fun n hn => ?_
  simp only [axCode, h n hn]
  cases ex with
  | goto l => exact absurd rfl (hne l)
  | _ => rfl

/-! ### Operations -/

theorem EvR.nil {ops : List Oper} : EvR E ops [] s s := ⟨0, fun n _ => rfl⟩

theorem EvR.cons {ops os : List Oper} {o : Oper} {v : AV} {H' : Heap} (h : ∀ R, axOne E R ops o s = some (v, H')) (h2 : EvR E ops os ⟨put s.T o.dst v, H'⟩ s1) : EvR E ops (o :: os) s s1 := by
  obtain ⟨N, h2⟩ := h2
  refine ⟨N, fun n hn => ?_⟩
  simp only [axRun, h, h2 n hn]

theorem EvR.call {ops os : List Oper} {o : Oper} {v : AV} {H' : Heap} {c : Call} {f : Operand} {args first captured : List AV} {g : FuncId} (hw : wantedA ops s.T o = true) (ho : o.op = .call c) (hc : c.callee = .value f) (ha : evs s.T c.args.toList = some args)
    (hf : ev s.T f = some (.func (.func g) first captured)) (h : EvC E g (first ++ args ++ captured) s.H v H') (h2 : EvR E ops os ⟨put s.T o.dst v, H'⟩ s1) : EvR E ops (o :: os) s s1 := by
  obtain ⟨N, h2⟩ := h2
  obtain ⟨M, h⟩ := h
  refine ⟨max N M, fun n hn => ?_⟩
  have hone : axOne E (recOf E (axCode E n)) ops o s = some (v, H') := by
    unfold axOne
    rw [if_pos hw]
    unfold axOp
    rw [ho]
    simp only [ha, hc, hf, callV, recOf, h n (by omega)]
  simp only [axRun, hone, h2 n (by omega)]

theorem EvC.oracle {f : FuncId} {args xs : List AV} {H : Heap} {ids : List Nat} {r : AV} (hk : E.kind f = 2) (hv : viewL (view H depthA) args = some (xs, ids)) (hO : E.O f xs = some r) : EvC E f args H r (kill H ids) := by
  refine ⟨0, fun n _ => ?_⟩
  unfold axCall
  rw [hk]
  simp only [hv, hO]

theorem EvC.inline {f : FuncId} {args : List AV} {H H' : Heap} {r : AV} (hk : E.kind f = 0) (h : EvF E f args H r H') : EvC E f args H r H' := by
  obtain ⟨N, h⟩ := h
  refine ⟨N, fun n hn => ?_⟩
  unfold axCall
  rw [hk]
  exact h n hn

theorem EvF.mk' {f : FuncId} {fn : Func} {c : Code} {args : List AV} {H : Heap} {r : AV} (hf : E.P.funcs[f]? = some fn) (hb : fn.body = some c) (h : Ev E c ⟨args ++ List.replicate (fn.ntmps - args.length) .undef, H⟩ ex s1) (hex : ex = .normal ∨ ex = .ret) (hr : resultsA E.P fn s1 = some r) : EvF E f args H r s1.H := by
  obtain ⟨N, h⟩ := h
  refine ⟨N, fun n hn => ?_⟩
  unfold axFn
  simp only [hf, hb, h n hn]
  rcases hex with rfl | rfl <;> simp only [hr]

end

/-- A function that runs on its own, on plain data, has its contract. -/
theorem EvF.pure {E : Env} (hP : ProgOK E.P) (hE : KnownOK E) {f : FuncId} {xs : List AV} {r r' : AV} {H' : Heap} {ids : List Nat} (h : EvF E f xs [] r H') (hv : view H' depthA r = some (r', ids)) : PureOK E.P f xs r' := by
  obtain ⟨N, h⟩ := h
  exact pure_of_fn (ax_sound hP hE N) (h N (Nat.le_refl _)) hv

end Go.AX

/- AX, part 22: walking in the evaluator, on values that are not all known. -/
set_option linter.unusedVariables false
set_option linter.unusedSimpArgs false
namespace Go.AX
open Go Go.RowKit

def noR : Rec := { call := fun _ _ _ => none, round := fun _ _ _ => none }

def Okk (x : Option (AV × Heap)) (K : AV → Heap → Prop) : Prop := ∃ v H', x = some (v, H') ∧ K v H'

theorem okk_some {v : AV} {H : Heap} {K : AV → Heap → Prop} : Okk (some (v, H)) K = K v H := by
  refine propext ⟨fun ⟨v', H', h, k⟩ => ?_, fun k => ⟨v, H, rfl, k⟩⟩
  simp only [Option.some.injEq, Prod.mk.injEq] at h
  obtain ⟨rfl, rfl⟩ := h
  exact k

/-- A call of a function value. -/
def CallW (E : Env) (f : AV) (args : List AV) (H : Heap) (K : AV → Heap → Prop) : Prop :=
  ∃ g fi ca v H', f = .func (.func g) fi ca ∧ EvC E g (fi ++ args ++ ca) H v H' ∧ K v H'

def calleeOf : Op → Option (Operand × Array Operand)
  | .call { callee := .value f, args, .. } => some (f, args)
  | _ => none

def WOne (E : Env) (o : Oper) (s : St) (K : AV → Heap → Prop) : Prop :=
  match calleeOf o.op with
  | some (f, args) => (match evs s.T args.toList, ev s.T f with
    | some as, some fv => CallW E fv as s.H K
    | _, _ => False)
  | none => Okk (axOp E noR s.T s.H o) K

/-- What a row of operations comes to. -/
def WOps (E : Env) (ops : List Oper) : List Oper → (St → Prop) → St → Prop
  | [], Q, s => Q s
  | o :: os, Q, s => if wantedA ops s.T o = true then WOne E o s fun v H' => WOps E ops os Q ⟨put s.T o.dst v, H'⟩ else WOps E ops os Q ⟨put s.T o.dst .undef, s.H⟩

/-- What code comes to. -/
def W (E : Env) (c : Code) (Q : Ex → St → Prop) (s : St) : Prop := ∃ ex s', Ev E c s ex s' ∧ Q ex s'

def Th (ex : Ex) (p q : Prop) : Prop := match ex with | .normal => p | _ => q

section
variable {E : Env} {Q : Ex → St → Prop} {s : St}

theorem axOp_noR {R : Rec} {T : List AV} {H : Heap} {o : Oper} (hc : calleeOf o.op = none) : axOp E R T H o = axOp E noR T H o := by
  obtain ⟨dst, op, type, pos, after, guard⟩ := o
  cases op
  case call c =>
    obtain ⟨callee, args, ats⟩ := c
    cases callee with
    | value f => simp [calleeOf] at hc
    | _ => rfl
  all_goals rfl

theorem wops_sound {ops : List Oper} : ∀ (os : List Oper) (Q : St → Prop) (s : St), WOps E ops os Q s → ∃ s', EvR E ops os s s' ∧ Q s'
  | [], Q, s, h => ⟨s, EvR.nil, h⟩
  | o :: os, Q, s, h => by
    simp only [WOps] at h
    split at h
    · rename_i hw
      unfold WOne at h
      split at h
      · rename_i f args hc
        split at h <;> try exact h.elim
        rename_i as fv has hfv
        obtain ⟨g, fi, ca, v, H', rfl, h1, h2⟩ := h
        obtain ⟨s', h3, h4⟩ := wops_sound os Q _ h2
        have hop : ∃ c : Call, o.op = .call c ∧ c.callee = .value f ∧ c.args = args := by
          unfold calleeOf at hc
          split at hc
          · rename_i hop
            simp only [Option.some.injEq, Prod.mk.injEq] at hc
            obtain ⟨rfl, rfl⟩ := hc
            exact ⟨_, hop, rfl, rfl⟩
          · simp at hc
        obtain ⟨c, k1, k2, k3⟩ := hop
        exact ⟨s', EvR.call hw k1 k2 (by rw [k3]; exact has) hfv h1 h3, h4⟩
      · rename_i hc
        obtain ⟨v, H', h1, h2⟩ := h
        obtain ⟨s', h3, h4⟩ := wops_sound os Q _ h2
        refine ⟨s', EvR.cons (fun R => ?_) h3, h4⟩
        unfold axOne
        rw [if_pos hw, axOp_noR hc, h1]
    · rename_i hw
      obtain ⟨s', h3, h4⟩ := wops_sound os Q _ h
      refine ⟨s', EvR.cons (fun R => ?_) h3, h4⟩
      unfold axOne
      rw [if_neg hw]

theorem W.mono {c : Code} {Q' : Ex → St → Prop} (h : W E c Q s) (hq : ∀ ex s, Q ex s → Q' ex s) : W E c Q' s := let ⟨ex, s', h1, h2⟩ := h; ⟨ex, s', h1, hq _ _ h2⟩
theorem W.skip (h : Q .normal s) : W E .skip Q s := ⟨_, _, Ev.skip, h⟩
theorem W.label {l : Nat} (h : Q .normal s) : W E (.label l) Q s := ⟨_, _, Ev.label, h⟩
theorem W.exit {id : Nat} (h : Q (.exit id) s) : W E (.exit id) Q s := ⟨_, _, Ev.exit, h⟩
theorem W.ret (h : Q .ret s) : W E .ret Q s := ⟨_, _, Ev.ret, h⟩
theorem W.region {id : Nat} {ops : Array Oper} (h : WOps E ops.toList ops.toList (fun s' => Q .normal s') s) : W E (.region id ops false) Q s := by
  obtain ⟨s', h1, h2⟩ := wops_sound _ _ _ h
  exact ⟨_, s', Ev.region h1, h2⟩
theorem W.seq {a b : Code} (h : W E a (fun ex s1 => Th ex (W E b Q s1) (Q ex s1)) s) : W E (.seq a b) Q s := by
  obtain ⟨ex, s1, h1, h2⟩ := h
  cases ex with
  | normal =>
    obtain ⟨ex2, s2, h3, h4⟩ := h2
    exact ⟨ex2, s2, Ev.seq h1 h3, h4⟩
  | exit i => exact ⟨_, s1, Ev.seq_out h1 (by simp), h2⟩
  | goto i => exact ⟨_, s1, Ev.seq_out h1 (by simp), h2⟩
  | ret => exact ⟨_, s1, Ev.seq_out h1 (by simp), h2⟩
theorem W.seqk {a b : Code} (h : ∀ K : St → Prop, (∀ s, W E b Q s → K s) → W E a (fun ex s1 => Th ex (K s1) (Q ex s1)) s) : W E (.seq a b) Q s := W.seq (h _ fun _ h => h)
theorem W.cond {c : Operand} {x y : Code} {b : Bool} (hc : ev s.T c = some (.bool b)) (h1 : b = true → W E x Q s) (h2 : b = false → W E y Q s) : W E (.cond c x y) Q s := by
  cases b with
  | true => obtain ⟨ex, s', g1, g2⟩ := h1 rfl; exact ⟨ex, s', Ev.cond_true hc g1, g2⟩
  | false => obtain ⟨ex, s', g1, g2⟩ := h2 rfl; exact ⟨ex, s', Ev.cond_false hc g1, g2⟩
def outOf (id : Nat) : Ex → Ex
  | .exit i => if i = id then .normal else .exit i
  | ex => ex
theorem W.block {id : Nat} {b : Code} (h : W E b (fun ex s' => Q (outOf id ex) s') s) : W E (.block id b) Q s := by
  obtain ⟨ex, s', h1, h2⟩ := h
  by_cases he : ex = .exit id
  · subst he
    simp only [outOf, if_true] at h2
    exact ⟨_, s', Ev.block h1, h2⟩
  · refine ⟨ex, s', Ev.block_thru h1 he, ?_⟩
    cases ex with
    | exit i =>
      have : i ≠ id := fun e => he (by rw [e])
      simpa [outOf, this] using h2
    | _ => exact h2
theorem W.scope {b : Code} (h : W E b (fun ex s' => (∀ l, ex ≠ .goto l) ∧ Q ex s') s) : W E (.scope b) Q s := by
  obtain ⟨ex, s', h1, h2, h3⟩ := h
  exact ⟨ex, s', Ev.scope h1 h2, h3⟩
theorem W.loop {b : Code} (I : Nat → St → Prop) {n : Nat} (h0 : I n s) (h : ∀ n s, I n s → W E b (fun ex s' => Th ex (∃ m, m < n ∧ I m s') (Q ex s')) s) : W E (.loop b) Q s := by
  induction n using Nat.strongRecOn generalizing s with
  | _ n ih =>
    obtain ⟨ex, s1, h1, h2⟩ := h n s h0
    cases ex with
    | normal =>
      obtain ⟨m, hm, hI⟩ := h2
      obtain ⟨ex2, s2, h3, h4⟩ := ih m hm hI
      exact ⟨ex2, s2, Ev.loop h1 h3, h4⟩
    | exit i => exact ⟨_, s1, Ev.loop_out h1 (by simp), h2⟩
    | goto i => exact ⟨_, s1, Ev.loop_out h1 (by simp), h2⟩
    | ret => exact ⟨_, s1, Ev.loop_out h1 (by simp), h2⟩

/-- A function, from the walk through its body. -/
theorem W.fn {f : FuncId} {fn : Func} {c : Code} {args : List AV} {H : Heap} {K : AV → Heap → Prop} (hf : E.P.funcs[f]? = some fn) (hb : fn.body = some c)
    (h : W E c (fun ex s' => (ex = .normal ∨ ex = .ret) ∧ ∃ r, resultsA E.P fn s' = some r ∧ K r s'.H) ⟨args ++ List.replicate (fn.ntmps - args.length) .undef, H⟩) : ∃ r H', EvF E f args H r H' ∧ K r H' := by
  obtain ⟨ex, s', h1, h2, r, h3, h4⟩ := h
  exact ⟨r, s'.H, EvF.mk' hf hb h1 h2 h3, h4⟩

end

/-! ### One operation at a time -/

theorem WOps.cons {E : Env} {ops os : List Oper} {o : Oper} {Q : St → Prop} {s : St} (hg : o.guard = none) (h : ∀ K : St → Prop, (∀ s', WOps E ops os Q s' → K s') → WOne E o s fun v H' => K ⟨put s.T o.dst v, H'⟩) : WOps E ops (o :: os) Q s := by
  simp only [WOps]
  have hw : wantedA ops s.T o = true := by unfold wantedA; rw [hg]
  rw [if_pos hw]
  exact h _ fun _ h => h

theorem getD_bool {T : List AV} {d : Nat} {b : Bool} (h : T.getD d .undef = .bool b) : T[d]? = some (.bool b) := by
  rw [List.getD] at h
  cases hx : T[d]? with
  | none => rw [hx] at h; simp [AV.undef] at h
  | some v => rw [hx] at h; simpa using h

theorem WOps.yes {E : Env} {ops os : List Oper} {o : Oper} {Q : St → Prop} {s : St} {j d : Nat} {want : Bool} (hg : o.guard = some (j, want)) (hd : (ops[j]?).bind (·.dst) = some d) (hb : s.T.getD d .undef = .bool want)
    (h : ∀ K : St → Prop, (∀ s', WOps E ops os Q s' → K s') → WOne E o s fun v H' => K ⟨put s.T o.dst v, H'⟩) : WOps E ops (o :: os) Q s := by
  simp only [WOps]
  have hw : wantedA ops s.T o = true := by
    unfold wantedA
    rw [hg]
    simp only [hd, getD_bool hb, beq_self_eq_true]
  rw [if_pos hw]
  exact h _ fun _ h => h

theorem WOps.no {E : Env} {ops os : List Oper} {o : Oper} {Q : St → Prop} {s : St} {j d : Nat} {want : Bool} (hg : o.guard = some (j, want)) (hd : (ops[j]?).bind (·.dst) = some d) (hb : s.T.getD d .undef = .bool (!want))
    (h : WOps E ops os Q ⟨put s.T o.dst .undef, s.H⟩) : WOps E ops (o :: os) Q s := by
  simp only [WOps]
  have hw : ¬ wantedA ops s.T o = true := by
    unfold wantedA
    rw [hg]
    simp only [hd, getD_bool hb]
    cases want <;> decide
  rw [if_neg hw]
  exact h

/-! ### Temporaries -/

theorem getD_self {T : List AV} {d : Nat} {v u : AV} (h : d < T.length) : (T.set d v).getD d u = v := by simp [h]
theorem getD_ne {T : List AV} {d t : Nat} {v u : AV} (h : d ≠ t) : (T.set d v).getD t u = T.getD t u := by simp [List.getElem?_set_ne h]
theorem get_self {T : List AV} {d : Nat} {v : AV} (h : d < T.length) : (T.set d v)[d]? = some v := by simp [h]
theorem get_ne {T : List AV} {d t : Nat} {v : AV} (h : d ≠ t) : (T.set d v)[t]? = T[t]? := List.getElem?_set_ne h

end Go.AX

/- AX, part 27: regions of open order that only read. -/
set_option linter.unusedVariables false
set_option linter.unusedSimpArgs false
namespace Go.AX
open Go Go.RowKit

mutual
theorem AV.beq_refl : ∀ (a : AV), AV.beq a a = true
  | .bool a => by simp [AV.beq]
  | .int k a => by simp [AV.beq]
  | .str s => by simp [AV.beq]
  | .nilptr => by simp [AV.beq]
  | .ptr i o => by simp [AV.beq]
  | .cptr a => by simp only [AV.beq]; exact AV.beqL_refl a
  | .nilsl => by simp [AV.beq]
  | .sl i o l s c => by simp [AV.beq]
  | .lst a l c => by simp [AV.beq, AV.beqL_refl a]
  | .func f a b => by simp [AV.beq, AV.beqL_refl a, AV.beqL_refl b]
  | .nilfunc => by simp [AV.beq]
  | .iface t v => by simp [AV.beq, AV.beq_refl v]
  | .nilif => by simp [AV.beq]
  | .agg a => by simp only [AV.beq]; exact AV.beqL_refl a
  | .tup a => by simp only [AV.beq]; exact AV.beqL_refl a
theorem AV.beqL_refl : ∀ (a : List AV), AV.beqL a a = true
  | [] => rfl
  | a :: as => by simp [AV.beqL, AV.beq_refl a, AV.beqL_refl as]
end

/-- The checks of a region that need no run. -/
def statAt (ops : List Oper) (o : Oper) (i : Nat) : Bool :=
  (o.after.toList.all fun e => !Region.binds .any e || e.on < i) &&
  (match o.dst with
   | some d => (ops.zipIdx.all fun (p, j) => j == i || p.dst != some d)
   | none => true) &&
  ((looks ops o).all fun t => ops.zipIdx.all fun (p, j) => j == i || p.dst != some t || bit (befs ops) i j || bit (befs ops) j i)

def qstat (ops : List Oper) : Bool := ops.zipIdx.all fun (o, i) => quietOp o.op && !hoist o && statAt ops o i

section
variable {E : Env} {R : Rec} {ops : List Oper}

theorem trace_run : ∀ (sq : List (Oper × Nat)) (s s1 : St), axRun E R ops (sq.map (·.1)) s = some s1 → (∀ x ∈ sq, quietOp x.1.op = true) →
    ∃ tr, axTrace E R ops sq s = some (tr, s1) ∧ tr.length = sq.length ∧ s1.H = s.H ∧ ∀ (k : Nat) o i, sq[k]? = some (o, i) → ∃ s' v, tr[k]? = some (s', v) ∧ s'.H = s.H ∧ axOne E R ops o s' = some (v, s.H)
  | [], s, s1, h, _ => by
    simp [axRun] at h
    subst h
    exact ⟨[], rfl, rfl, rfl, fun k o i hk => by simp at hk⟩
  | (o, i) :: sq, s, s1, h, hq => by
    simp only [List.map_cons, axRun] at h
    split at h <;> try (simp at h; done)
    rename_i v H1 h1
    have hH := axOne_quiet_heap (hq (o, i) (by simp)) h1
    subst hH
    obtain ⟨tr, g1, g2, g3, g4⟩ := trace_run sq _ s1 h fun x hx => hq x (by simp [hx])
    refine ⟨(s, v) :: tr, by simp only [axTrace, h1, g1], by simp [g2], g3, fun k o' i' hk => ?_⟩
    cases k with
    | zero =>
      simp at hk
      obtain ⟨rfl, rfl⟩ := hk
      exact ⟨s, v, rfl, rfl, h1⟩
    | succ k =>
      obtain ⟨s', v', q1, q2, q3⟩ := g4 k o' i' (by simpa using hk)
      exact ⟨s', v', by simpa using q1, q2, q3⟩

theorem heapsFor_quiet (bs : List Nat) (last : Heap) (i : Nat) : ∀ (sq : List (Oper × Nat)) (tr : List (St × AV)), (∀ x ∈ sq, loudOp x.1 = false) → heapsFor bs last i sq tr = [last]
  | [], _, _ => by simp [heapsFor]
  | (o, j) :: sq, [], _ => by simp [heapsFor]
  | (o, j) :: sq, (s, v) :: tr, h => by
    simp only [heapsFor]
    rw [if_neg (by rw [h (o, j) (by simp)]; decide)]
    exact heapsFor_quiet bs last i sq tr fun x hx => h x (by simp [hx])

theorem okAll_of {bs : List Nat} {sq : List (Oper × Nat)} {all : List (St × AV)} {last : St} : ∀ (os : List (Oper × Nat)) (ts : List (St × AV)), ts.length = os.length → (∀ (k : Nat) o i, os[k]? = some (o, i) → ∃ s v, ts[k]? = some (s, v) ∧ okAt E R ops bs sq all last i o s v = true) → okAll E R ops bs sq all last os ts = true
  | [], [], _, _ => rfl
  | [], t :: ts, h, _ => by simp at h
  | o :: os, [], h, _ => by simp at h
  | (o, i) :: os, (s, v) :: ts, hl, h => by
    obtain ⟨s', v', h1, h2⟩ := h 0 o i rfl
    simp at h1
    obtain ⟨rfl, rfl⟩ := h1
    simp only [okAll, h2, Bool.true_and]
    exact okAll_of os ts (by simpa using hl) fun k o i hk => h (k + 1) o i (by simpa using hk)

theorem draw_run (hst : qstat ops = true) {s s1 : St} (h : axRun E R ops ops s = some s1) : axDraw E R ops s = some s1 := by
  have hall : ∀ x ∈ ops.zipIdx, quietOp x.1.op = true ∧ hoist x.1 = false ∧ statAt ops x.1 x.2 = true := by
    intro x hx
    have := List.all_eq_true.1 hst x hx
    simp only [Bool.and_eq_true, Bool.not_eq_true'] at this
    exact ⟨this.1.1, this.1.2, this.2⟩
  have hsq : seqOf ops = ops.zipIdx := by
    unfold seqOf
    rw [List.filter_eq_nil_iff.2 (fun x hx => by rw [(hall x hx).2.1]; decide), List.filter_eq_self.2 (fun x hx => by simp [(hall x hx).2.1]), List.nil_append]
  have hloud : ∀ x ∈ ops.zipIdx, loudOp x.1 = false := fun x hx => by simp [loudOp, (hall x hx).1]
  have hmap : ops.zipIdx.map (·.1) = ops := by simp
  obtain ⟨tr, g1, g2, g3, g4⟩ := trace_run (E := E) (R := R) (ops := ops) ops.zipIdx s s1 (by rw [hmap]; exact h) (fun x hx => (hall x hx).1)
  unfold axDraw
  rw [hsq, g1]
  simp only
  rw [if_pos]
  simp only [Bool.and_eq_true]
  constructor
  · unfold louds
    have : loudsOf ops.zipIdx = [] := by
      unfold loudsOf
      rw [List.filter_eq_nil_iff.2 (fun x hx => by rw [hloud x hx]; decide)]
      rfl
    rw [this]
    rfl
  · refine okAll_of _ _ g2 fun k o i hk => ?_
    obtain ⟨s', v, q1, q2, q3⟩ := g4 k o i hk
    refine ⟨s', v, q1, ?_⟩
    have hx := hall (o, i) (List.mem_of_getElem? hk)
    unfold okAt
    simp only [Bool.and_eq_true]
    refine ⟨?_, ?_⟩
    · have := hx.2.2
      unfold statAt at this
      simp only [Bool.and_eq_true] at this
      exact ⟨⟨this.1.1, this.1.2⟩, this.2⟩
    · rw [hloud (o, i) (List.mem_of_getElem? hk), Bool.false_or, heapsFor_quiet _ _ _ _ _ hloud]
      simp only [List.all_cons, List.all_nil, Bool.and_true]
      unfold okHeap
      rw [hx.2.1]
      simp only [Bool.false_eq_true, if_false]
      have hs : axOne E R ops o ⟨s'.T, s1.H⟩ = some (v, s.H) := by
        rw [g3, ← q2]
        rw [← q2] at q3
        exact q3
      split
      · rw [hs]; exact AV.beq_refl v
      · rw [hs]; exact AV.beq_refl v
      · rfl

end

theorem W.regiond {E : Env} {Q : Ex → St → Prop} {s : St} {id : Nat} {ops : Array Oper} (hst : qstat ops.toList = true) (h : WOps E ops.toList ops.toList (fun s' => Q .normal s') s) : W E (.region id ops true) Q s := by
  obtain ⟨s', ⟨N, h1⟩, h2⟩ := wops_sound _ _ _ h
  exact ⟨_, s', Ev.draw ⟨N, fun n hn => draw_run hst (h1 n hn)⟩, h2⟩

end Go.AX

/- AX, part 28: regions of open order with calls and stores in a fixed order: walking in them. -/
set_option linter.unusedVariables false
set_option linter.unusedSimpArgs false
namespace Go.AX
open Go Go.RowKit

def isRead (o : Oper) : Bool :=
  match o.op with
  | .load .. | .slice .. => true
  | _ => false

/-- The checks that need no run; 'fin': reads may come last of all. -/
def lstat (fin : Bool) (ops : List Oper) : Bool :=
  (ops.zipIdx.all fun (o, i) => !hoist o && statAt ops o i && (fin || !isRead o || ops.zipIdx.any fun (p, j) => loudOp p && bit (befs ops) j i)) &&
  pairOK (befs ops) (loudsOf ops.zipIdx)

/-- A walk in which what only reads does as it does in any memory of a kind. -/
def WD (E : Env) (ops : List Oper) (A : Heap → Prop) (fin : Bool) : List Oper → (St → Prop) → St → Prop
  | [], Q, s => Q s
  | o :: os, Q, s =>
    if loudOp o = true then
      (if wantedA ops s.T o = true then WOne E o s fun v H' => ((os.any loudOp || fin) = true → A H') ∧ WD E ops A fin os Q ⟨put s.T o.dst v, H'⟩ else WD E ops A fin os Q ⟨put s.T o.dst .undef, s.H⟩)
    else ∃ v, (∀ K, A K ∨ K = s.H → ∀ R, axOne E R ops o ⟨s.T, K⟩ = some (v, K)) ∧ WD E ops A fin os Q ⟨put s.T o.dst v, s.H⟩

section
variable {E : Env} {ops : List Oper} {A : Heap → Prop} {fin : Bool}

theorem heapsFor_mem (bs : List Nat) (last : Heap) (i : Nat) : ∀ (sq : List (Oper × Nat)) (tr : List (St × AV)) (h : Heap), tr.length = sq.length → h ∈ heapsFor bs last i sq tr →
    (∃ (k : Nat) (o : Oper) (j : Nat) (s : St) (v : AV), sq[k]? = some (o, j) ∧ loudOp o = true ∧ tr[k]? = some (s, v) ∧ h = s.H) ∨ (h = last ∧ ∀ x ∈ sq, loudOp x.1 = true → bit bs x.2 i = false)
  | [], [], h, _, hm => by simp [heapsFor] at hm; exact .inr ⟨hm, fun x hx => by simp at hx⟩
  | [], t :: ts, h, hl, _ => by simp at hl
  | x :: sq, [], h, hl, _ => by simp at hl
  | (o, j) :: sq, (s, v) :: tr, h, hl, hm => by
    have hl' : tr.length = sq.length := by simpa using hl
    simp only [heapsFor] at hm
    have push : ((∃ (k : Nat) (o : Oper) (j : Nat) (s : St) (v : AV), sq[k]? = some (o, j) ∧ loudOp o = true ∧ tr[k]? = some (s, v) ∧ h = s.H) ∨ (h = last ∧ ∀ x ∈ sq, loudOp x.1 = true → bit bs x.2 i = false)) → (loudOp o = true → bit bs j i = false) →
        (∃ (k : Nat) (o' : Oper) (j' : Nat) (s' : St) (v' : AV), ((o, j) :: sq)[k]? = some (o', j') ∧ loudOp o' = true ∧ ((s, v) :: tr)[k]? = some (s', v') ∧ h = s'.H) ∨ (h = last ∧ ∀ x ∈ (o, j) :: sq, loudOp x.1 = true → bit bs x.2 i = false) := by
      rintro (⟨k, o', j', s', v', h1, h2, h3, h4⟩ | ⟨h1, h2⟩) hb
      · exact .inl ⟨k + 1, o', j', s', v', by simpa using h1, h2, by simpa using h3, h4⟩
      · refine .inr ⟨h1, fun x hx hlx => ?_⟩
        rcases List.mem_cons.1 hx with rfl | hx
        · exact hb hlx
        · exact h2 x hx hlx
    split at hm
    · rename_i hlo
      split at hm
      · simp at hm
        exact .inl ⟨0, o, j, s, v, rfl, hlo, rfl, hm⟩
      · rename_i hb
        have hb' : bit bs j i = false := by simpa using hb
        split at hm
        · exact push (heapsFor_mem bs last i sq tr h hl' hm) fun _ => hb'
        · rcases List.mem_cons.1 hm with rfl | hm
          · exact .inl ⟨0, o, j, s, v, rfl, hlo, rfl, rfl⟩
          · exact push (heapsFor_mem bs last i sq tr h hl' hm) fun _ => hb'
    · rename_i hlo
      exact push (heapsFor_mem bs last i sq tr h hl' hm) fun h => absurd h hlo

/-- What a walk says of a trace. -/
theorem wd_trace : ∀ (sq : List (Oper × Nat)) (Q : St → Prop) (s : St), (A s.H ∨ (sq.any fun x => loudOp x.1) = false ∧ fin = false) → WD E ops A fin (sq.map (·.1)) Q s → ∃ s', Q s' ∧ ∃ N, ∀ n, N ≤ n → ∃ tr,
    axTrace E (recOf E (axCode E n)) ops sq s = some (tr, s') ∧ tr.length = sq.length ∧ (fin = true → A s'.H) ∧ ((sq.any fun x => loudOp x.1) = false → s'.H = s.H) ∧
    ∀ (k : Nat) o i, sq[k]? = some (o, i) → ∃ s1 v, tr[k]? = some (s1, v) ∧ (loudOp o = true → A s1.H) ∧ (loudOp o = false → ∀ K, A K ∨ K = s1.H → ∀ R, axOne E R ops o ⟨s1.T, K⟩ = some (v, K))
  | [], Q, s, hA, h => ⟨s, h, 0, fun n _ => ⟨[], rfl, rfl, fun hf => hA.elim id fun h => by rw [hf] at h; simp at h, fun _ => rfl, fun k o i hk => by simp at hk⟩⟩
  | (o, i) :: sq, Q, s, hA, h => by
    simp only [List.map_cons, WD] at h
    have fin' : ∀ (v : AV) (H' : Heap) (N1 : Nat), (∀ n, N1 ≤ n → axOne E (recOf E (axCode E n)) ops o s = some (v, H')) → (A H' ∨ (sq.any fun x => loudOp x.1) = false ∧ fin = false) → (loudOp o = true → A s.H) → (loudOp o = false → H' = s.H) →
        (loudOp o = false → ∀ K, A K ∨ K = s.H → ∀ R, axOne E R ops o ⟨s.T, K⟩ = some (v, K)) → WD E ops A fin (sq.map (·.1)) Q ⟨put s.T o.dst v, H'⟩ → ∃ s', Q s' ∧ ∃ N, ∀ n, N ≤ n → ∃ tr,
        axTrace E (recOf E (axCode E n)) ops ((o, i) :: sq) s = some (tr, s') ∧ tr.length = ((o, i) :: sq).length ∧ (fin = true → A s'.H) ∧ ((((o, i) :: sq).any fun x => loudOp x.1) = false → s'.H = s.H) ∧
        ∀ (k : Nat) o' i', ((o, i) :: sq)[k]? = some (o', i') → ∃ s1 v, tr[k]? = some (s1, v) ∧ (loudOp o' = true → A s1.H) ∧ (loudOp o' = false → ∀ K, A K ∨ K = s1.H → ∀ R, axOne E R ops o' ⟨s1.T, K⟩ = some (v, K)) := by
      intro v H' N1 h1 hA' hlo hq hv hw
      obtain ⟨s', hQ, N, hN⟩ := wd_trace sq Q ⟨put s.T o.dst v, H'⟩ hA' hw
      refine ⟨s', hQ, max N N1, fun n hn => ?_⟩
      obtain ⟨tr, g1, g2, g3, g4, g5⟩ := hN n (by omega)
      refine ⟨(s, v) :: tr, by simp only [axTrace, h1 n (by omega), g1], by simp [g2], g3, fun hnl => ?_, fun k o' i' hk => ?_⟩
      · simp only [List.any_cons, Bool.or_eq_false_iff] at hnl
        rw [g4 hnl.2, hq hnl.1]
      · cases k with
        | zero =>
          simp at hk
          obtain ⟨rfl, rfl⟩ := hk
          exact ⟨s, v, rfl, hlo, hv⟩
        | succ k =>
          obtain ⟨s1, v1, q1, q2, q3⟩ := g5 k o' i' (by simpa using hk)
          exact ⟨s1, v1, by simpa using q1, q2, q3⟩
    split at h
    · rename_i hl
      have hAs : A s.H := by
        rcases hA with h | ⟨h, _⟩
        · exact h
        · simp [hl] at h
      split at h
      · rename_i hw
        unfold WOne at h
        have hmk : ∀ H', ((((sq.map (·.1)).any loudOp) || fin) = true → A H') → (A H' ∨ (sq.any fun x => loudOp x.1) = false ∧ fin = false) := by
          intro H' hh
          by_cases hb : (((sq.map (·.1)).any loudOp) || fin) = true
          · exact .inl (hh hb)
          · refine .inr ?_
            simp only [Bool.or_eq_true, not_or, Bool.not_eq_true] at hb
            refine ⟨?_, hb.2⟩
            have := hb.1
            rw [List.any_map] at this
            exact this
        split at h
        · rename_i f args hc
          split at h <;> try exact h.elim
          rename_i as fv has hfv
          obtain ⟨g, fi, ca, v, H', rfl, ⟨M, h1⟩, h2, h3⟩ := h
          have hop : ∃ c : Call, o.op = .call c ∧ c.callee = .value f ∧ c.args = args := by
            unfold calleeOf at hc
            split at hc
            · rename_i hop
              simp only [Option.some.injEq, Prod.mk.injEq] at hc
              obtain ⟨rfl, rfl⟩ := hc
              exact ⟨_, hop, rfl, rfl⟩
            · simp at hc
          obtain ⟨c, k1, k2, k3⟩ := hop
          refine fin' v H' M (fun n hn => ?_) (hmk H' h2) (fun _ => hAs) (fun hf => by rw [hl] at hf; simp at hf) (fun hf => by rw [hl] at hf; simp at hf) h3
          unfold axOne
          rw [if_pos hw]
          unfold axOp
          rw [k1]
          simp only [k2, k3, has, hfv, callV, recOf, h1 n hn]
        · rename_i hc
          obtain ⟨v, H', h1, h2, h3⟩ := h
          refine fin' v H' 0 (fun n hn => ?_) (hmk H' h2) (fun _ => hAs) (fun hf => by rw [hl] at hf; simp at hf) (fun hf => by rw [hl] at hf; simp at hf) h3
          unfold axOne
          rw [if_pos hw, axOp_noR hc, h1]
      · rename_i hw
        refine fin' .undef s.H 0 (fun n hn => ?_) (.inl hAs) (fun _ => hAs) (fun _ => rfl) (fun hf => by rw [hl] at hf; simp at hf) h
        unfold axOne
        rw [if_neg hw]
    · rename_i hl
      obtain ⟨v, h1, h2⟩ := h
      refine fin' v s.H 0 (fun n hn => h1 s.H (.inr rfl) _) ?_ (fun h => absurd h hl) (fun _ => rfl) (fun _ => h1) h2
      rcases hA with h | ⟨h, h'⟩
      · exact .inl h
      · simp only [List.any_cons, Bool.or_eq_false_iff] at h
        exact .inr ⟨h.2, h'⟩

theorem wd_draw (hst : lstat fin ops = true) {Q : St → Prop} {s : St} (hA : A s.H) (h : WD E ops A fin ops Q s) : ∃ s', Q s' ∧ ∃ N, ∀ n, N ≤ n → axDraw E (recOf E (axCode E n)) ops s = some s' := by
  unfold lstat at hst
  simp only [Bool.and_eq_true] at hst
  obtain ⟨hst, hpair⟩ := hst
  have hall : ∀ (i : Nat) o, ops[i]? = some o → hoist o = false ∧ statAt ops o i = true ∧ (fin = true ∨ isRead o = false ∨ ∃ j p, ops[j]? = some p ∧ loudOp p = true ∧ bit (befs ops) j i = true) := by
    intro i o hi
    have := List.all_eq_true.1 hst (o, i) (List.mem_zipIdx_iff_getElem?.2 hi)
    simp only [Bool.and_eq_true, Bool.not_eq_true', Bool.or_eq_true] at this
    refine ⟨this.1.1, this.1.2, ?_⟩
    rcases this.2 with (h | h) | h
    · exact .inl h
    · exact .inr (.inl h)
    · obtain ⟨⟨p, j⟩, hp, hb⟩ := List.any_eq_true.1 h
      simp only [Bool.and_eq_true] at hb
      exact .inr (.inr ⟨j, p, List.mem_zipIdx_iff_getElem?.1 hp, hb.1, hb.2⟩)
  have hmem : ∀ x ∈ ops.zipIdx, ops[x.2]? = some x.1 := fun x hx => List.mem_zipIdx_iff_getElem?.1 hx
  have hsq : seqOf ops = ops.zipIdx := by
    unfold seqOf
    rw [List.filter_eq_nil_iff.2 (fun x hx => by rw [(hall x.2 x.1 (hmem x hx)).1]; decide), List.filter_eq_self.2 (fun x hx => by simp [(hall x.2 x.1 (hmem x hx)).1]), List.nil_append]
  have hmap : ops.zipIdx.map (·.1) = ops := by simp
  obtain ⟨s', hQ, N, hN⟩ := wd_trace (E := E) (ops := ops) (A := A) (fin := fin) ops.zipIdx Q s (.inl hA) (by rw [hmap]; exact h)
  refine ⟨s', hQ, N, fun n hn => ?_⟩
  obtain ⟨tr, g1, g2, g3, g4, g5⟩ := hN n hn
  unfold axDraw
  rw [hsq, g1]
  simp only
  rw [if_pos]
  simp only [Bool.and_eq_true]
  constructor
  · unfold louds
    simp only [hpair, Bool.true_or]
  · refine okAll_of _ _ g2 fun k o i hk => ?_
    obtain ⟨s1, v, q1, q2, q3⟩ := g5 k o i hk
    refine ⟨s1, v, q1, ?_⟩
    have hio := hmem (o, i) (List.mem_of_getElem? hk)
    obtain ⟨hh, hs, hr⟩ := hall i o hio
    unfold okAt
    simp only [Bool.and_eq_true]
    refine ⟨?_, ?_⟩
    · unfold statAt at hs
      simp only [Bool.and_eq_true] at hs
      exact ⟨⟨hs.1.1, hs.1.2⟩, hs.2⟩
    · by_cases hl : loudOp o = true
      · rw [hl]; rfl
      · have hl' : loudOp o = false := by simpa using hl
        rw [hl', Bool.false_or, List.all_eq_true]
        intro h hm
        unfold okHeap
        rw [hh]
        simp only [Bool.false_eq_true, if_false]
        have hval : isRead o = true → (match axOne E (recOf E (axCode E n)) ops o ⟨s1.T, h⟩ with | some (u, _) => AV.beq u v | none => false) = true := by
          intro hrd
          have hAh : A h ∨ h = s1.H := by
            rcases heapsFor_mem _ _ _ _ _ _ g2 hm with ⟨k2, o2, j2, s2, v2, p1, p2, p3, p4⟩ | ⟨p1, p2⟩
            · obtain ⟨s3, v3, r1, r2, r3⟩ := g5 k2 o2 j2 p1
              rw [p3] at r1
              simp at r1
              obtain ⟨rfl, rfl⟩ := r1
              exact .inl (p4 ▸ r2 p2)
            · rcases hr with hf | hr | ⟨j, p, e1, e2, e3⟩
              · exact .inl (p1 ▸ g3 hf)
              · rw [hrd] at hr; simp at hr
              · have := p2 (p, j) (List.mem_zipIdx_iff_getElem?.2 e1) e2
                simp only at this
                rw [this] at e3
                simp at e3
          rw [q3 hl' h hAh]
          exact AV.beq_refl v
        unfold isRead at hval
        split
        · rename_i hop; rw [hop] at hval; exact hval rfl
        · rename_i hop; rw [hop] at hval; exact hval rfl
        · rfl

end

theorem W.regionl {E : Env} {Q : Ex → St → Prop} {s : St} {id : Nat} {ops : Array Oper} (A : Heap → Prop) (fin : Bool) (hst : lstat fin ops.toList = true) (hA : A s.H) (h : WD E ops.toList A fin ops.toList (fun s' => Q .normal s') s) : W E (.region id ops true) Q s := by
  obtain ⟨s', h2, N, h1⟩ := wd_draw hst hA h
  exact ⟨_, s', Ev.draw ⟨N, h1⟩, h2⟩

/-! One at a time. -/

section
variable {E : Env} {ops os : List Oper} {A : Heap → Prop} {fin : Bool} {o : Oper} {Q : St → Prop} {s : St}

theorem WD.quiet {v : AV} (hl : loudOp o = false) (hg : o.guard = none) (hv : ∀ K, A K ∨ K = s.H → axOp E noR s.T K o = some (v, K)) (hc : calleeOf o.op = none) (h : WD E ops A fin os Q ⟨put s.T o.dst v, s.H⟩) : WD E ops A fin (o :: os) Q s := by
  simp only [WD]
  rw [if_neg (by rw [hl]; decide)]
  refine ⟨v, fun K hK R => ?_, h⟩
  unfold axOne wantedA
  rw [hg]
  simp only [if_true]
  rw [axOp_noR hc]
  exact hv K hK

theorem WD.quiet_yes {v : AV} {j d : Nat} {want : Bool} (hl : loudOp o = false) (hg : o.guard = some (j, want)) (hd : (ops[j]?).bind (·.dst) = some d) (hb : s.T.getD d .undef = .bool want) (hv : ∀ K, A K ∨ K = s.H → axOp E noR s.T K o = some (v, K)) (hc : calleeOf o.op = none)
    (h : WD E ops A fin os Q ⟨put s.T o.dst v, s.H⟩) : WD E ops A fin (o :: os) Q s := by
  simp only [WD]
  rw [if_neg (by rw [hl]; decide)]
  refine ⟨v, fun K hK R => ?_, h⟩
  unfold axOne wantedA
  rw [hg]
  simp only [hd, getD_bool hb, beq_self_eq_true, if_true]
  rw [axOp_noR hc]
  exact hv K hK

theorem WD.skip {j d : Nat} {want : Bool} (hg : o.guard = some (j, want)) (hd : (ops[j]?).bind (·.dst) = some d) (hb : s.T.getD d .undef = .bool (!want)) (h : WD E ops A fin os Q ⟨put s.T o.dst .undef, s.H⟩) : WD E ops A fin (o :: os) Q s := by
  have hw : ∀ K : Heap, ¬ wantedA ops s.T o = true := by
    intro K
    unfold wantedA
    rw [hg]
    simp only [hd, getD_bool hb]
    cases want <;> decide
  simp only [WD]
  split
  · rw [if_neg (hw s.H)]; exact h
  · refine ⟨.undef, fun K hK R => ?_, h⟩
    unfold axOne
    rw [if_neg (hw K)]

theorem WD.loud (hl : loudOp o = true) (hg : o.guard = none) (h : ∀ K : AV → Heap → Prop, (∀ v H', ((os.any loudOp || fin) = true → A H') → WD E ops A fin os Q ⟨put s.T o.dst v, H'⟩ → K v H') → WOne E o s K) : WD E ops A fin (o :: os) Q s := by
  simp only [WD]
  have hw : wantedA ops s.T o = true := by unfold wantedA; rw [hg]
  rw [if_pos hl, if_pos hw]
  exact h _ fun v H' h1 h2 => ⟨h1, h2⟩

theorem WD.loud_yes {j d : Nat} {want : Bool} (hl : loudOp o = true) (hg : o.guard = some (j, want)) (hd : (ops[j]?).bind (·.dst) = some d) (hb : s.T.getD d .undef = .bool want)
    (h : ∀ K : AV → Heap → Prop, (∀ v H', ((os.any loudOp || fin) = true → A H') → WD E ops A fin os Q ⟨put s.T o.dst v, H'⟩ → K v H') → WOne E o s K) : WD E ops A fin (o :: os) Q s := by
  simp only [WD]
  have hw : wantedA ops s.T o = true := by
    unfold wantedA
    rw [hg]
    simp only [hd, getD_bool hb, beq_self_eq_true]
  rw [if_pos hl, if_pos hw]
  exact h _ fun v H' h1 h2 => ⟨h1, h2⟩

end
end Go.AX
