/- AX, part 50: walking with the kernel: temporaries by updates, memory by names. -/
import Derived.Test.YtkkdpjmefjampaaGreatB1
import Derived.Test.YtkkdpjmefjampaaGreatA3
set_option linter.unusedVariables false
set_option linter.unusedSimpArgs false
namespace Go.AX
open Go Go.RowKit Go.Proofs

/-! ### Temporaries -/

def ups : List AV → List (Nat × AV) → List AV
  | T, [] => T
  | T, (i, v) :: us => ups (T.set i v) us

/-! ### Memory -/

abbrev Kn := List (Nat × Blk)

/-- These blocks are in memory; their names differ. -/
structure Has (H : Heap) (L : Kn) : Prop where
  get : ∀ (k : Nat) id b, L[k]? = some (id, b) → H[id]? = some b
  ne : ∀ (k k' : Nat) id id' b b', L[k]? = some (id, b) → L[k']? = some (id', b') → k ≠ k' → id ≠ id'

theorem Has.nil {H : Heap} : Has H [] := ⟨fun k id b h => by simp at h, fun k k' id id' b b' h => by simp at h⟩

theorem Has.lt {H : Heap} {L : Kn} (h : Has H L) {k id : Nat} {b : Blk} (hk : L[k]? = some (id, b)) : id < H.length := (List.getElem?_eq_some_iff.1 (h.get k id b hk)).1

theorem Has.new {H : Heap} {L : Kn} (h : Has H L) (b : Blk) : Has (H ++ [b]) ((H.length, b) :: L) := by
  refine ⟨fun k id b' hk => ?_, fun k k' id id' b1 b2 h1 h2 hne => ?_⟩
  · cases k with
    | zero => simp at hk; obtain ⟨rfl, rfl⟩ := hk; simp
    | succ k =>
      have hk' : L[k]? = some (id, b') := by simpa using hk
      rw [List.getElem?_append_left (h.lt hk')]
      exact h.get k id b' hk'
  · cases k with
    | zero =>
      cases k' with
      | zero => exact absurd rfl hne
      | succ k' =>
        have hk' : L[k']? = some (id', b2) := by simpa using h2
        have := h.lt hk'
        simp at h1
        omega
    | succ k =>
      have hk : L[k]? = some (id, b1) := by simpa using h1
      cases k' with
      | zero =>
        have := h.lt hk
        simp at h2
        omega
      | succ k' => exact h.ne k k' id id' b1 b2 hk (by simpa using h2) (by omega)

theorem Has.put {H : Heap} {L : Kn} (h : Has H L) {k id : Nat} {b : Blk} (hk : L[k]? = some (id, b)) (b' : Blk) : Has (H.set id b') (L.set k (id, b')) := by
  have hkl : k < L.length := (List.getElem?_eq_some_iff.1 hk).1
  have old : ∀ (j : Nat) i c, (L.set k (id, b'))[j]? = some (i, c) → ∃ c', L[j]? = some (i, c') ∧ (j ≠ k → c' = c) := by
    intro j i c hj
    by_cases hjk : k = j
    · subst hjk
      rw [List.getElem?_set_self hkl] at hj
      simp at hj
      obtain ⟨rfl, rfl⟩ := hj
      exact ⟨b, hk, fun h => absurd rfl h⟩
    · rw [List.getElem?_set_ne hjk] at hj
      exact ⟨c, hj, fun _ => rfl⟩
  refine ⟨fun j i c hj => ?_, fun j j' i i' c c' h1 h2 hne => ?_⟩
  · by_cases hjk : k = j
    · subst hjk
      rw [List.getElem?_set_self hkl] at hj
      simp at hj
      obtain ⟨rfl, rfl⟩ := hj
      exact List.getElem?_set_self (h.lt hk)
    · rw [List.getElem?_set_ne hjk] at hj
      rw [List.getElem?_set_ne (h.ne k j id i b c hk hj hjk)]
      exact h.get j i c hj
  · obtain ⟨d, e1, _⟩ := old j i c h1
    obtain ⟨d', e2, _⟩ := old j' i' c' h2
    exact h.ne j j' i i' d d' e1 e2 hne

/-- Some of the blocks. -/
theorem Has.pick {H : Heap} {L : Kn} (h : Has H L) (ks : List Nat) (hn : ks.Nodup) : Has H (ks.filterMap fun k => L[k]?) := by
  have hex : ∀ (ks : List Nat), ks.Nodup → ∃ f : Nat → Nat, (∀ (j : Nat) x, (ks.filterMap fun k => L[k]?)[j]? = some x → L[f j]? = some x ∧ f j ∈ ks) ∧ ∀ (j j' : Nat) x x', (ks.filterMap fun k => L[k]?)[j]? = some x → (ks.filterMap fun k => L[k]?)[j']? = some x' → j ≠ j' → f j ≠ f j' := by
    intro ks
    induction ks with
    | nil => intro _; exact ⟨id, fun j x h => by simp at h, fun j j' x x' h => by simp at h⟩
    | cons a ks ih =>
      intro hn
      obtain ⟨f, f1, f2⟩ := ih (List.nodup_cons.1 hn).2
      have hna := (List.nodup_cons.1 hn).1
      cases ha : L[a]? with
      | none =>
        have e : (a :: ks).filterMap (fun k => L[k]?) = ks.filterMap fun k => L[k]? := by simp [List.filterMap_cons, ha]
        rw [e]
        exact ⟨f, fun j x hj => ⟨(f1 j x hj).1, List.mem_cons_of_mem _ (f1 j x hj).2⟩, f2⟩
      | some y =>
        have e : (a :: ks).filterMap (fun k => L[k]?) = y :: ks.filterMap fun k => L[k]? := by simp [List.filterMap_cons, ha]
        rw [e]
        refine ⟨fun j => match j with | 0 => a | j + 1 => f j, fun j x hj => ?_, fun j j' x x' h1 h2 hne => ?_⟩
        · cases j with
          | zero => simp at hj; subst hj; exact ⟨ha, List.mem_cons_self⟩
          | succ j => exact ⟨(f1 j x (by simpa using hj)).1, List.mem_cons_of_mem _ (f1 j x (by simpa using hj)).2⟩
        · cases j with
          | zero =>
            cases j' with
            | zero => exact absurd rfl hne
            | succ j' =>
              have := (f1 j' x' (by simpa using h2)).2
              intro e
              simp only at e
              rw [← e] at this
              exact hna this
          | succ j =>
            cases j' with
            | zero =>
              have := (f1 j x (by simpa using h1)).2
              intro e
              simp only at e
              rw [e] at this
              exact hna this
            | succ j' => exact f2 j j' x x' (by simpa using h1) (by simpa using h2) (by omega)
  obtain ⟨f, f1, f2⟩ := hex ks hn
  exact ⟨fun k id b hk => h.get (f k) id b (f1 k _ hk).1, fun k k' id id' b b' h1 h2 hne => h.ne (f k) (f k') id id' b b' (f1 k _ h1).1 (f1 k' _ h2).1 (f2 k k' _ _ h1 h2 hne)⟩

/-- Blocks with other names die. -/
theorem Has.kill {L : Kn} : ∀ (ids : List Nat) {H : Heap}, Has H L → (∀ i ∈ ids, ∀ (k : Nat) id b, L[k]? = some (id, b) → i ≠ id) → Has (AX.kill H ids) L
  | [], _, h, _ => h
  | i :: ids, H, h, hn => by
    refine Has.kill ids (H := H.set i .dead) ⟨fun k id b hk => ?_, h.ne⟩ fun j hj => hn j (List.mem_cons_of_mem _ hj)
    rw [List.getElem?_set_ne (hn i List.mem_cons_self k id b hk)]
    exact h.get k id b hk

/-- The blocks at these places die. -/
theorem Has.kills {H : Heap} {L : Kn} (h : Has H L) {ids : List Nat} (ds ks : List Nat) (hd : ids = (ds.filterMap fun k => L[k]?).map (·.1)) (hn : (ds ++ ks).Nodup) : Has (AX.kill H ids) (ks.filterMap fun k => L[k]?) := by
  subst hd
  obtain ⟨n1, n2, n3⟩ := List.nodup_append.1 hn
  refine Has.kill _ (h.pick ks n2) fun i hi k id b hk => ?_
  simp only [List.mem_map, List.mem_filterMap] at hi
  obtain ⟨⟨i', b'⟩, ⟨d, hd, e⟩, rfl⟩ := hi
  have hm := List.mem_of_getElem? hk
  simp only [List.mem_filterMap] at hm
  obtain ⟨k2, hk2, e2⟩ := hm
  exact h.ne d k2 i' id b' b e e2 (n3 d hd k2 hk2)

/-! ### Views -/

theorem vagg {H : Heap} {n : Nat} {cs rs : List AV} {ids : List Nat} (h : viewL (view H n) cs = some (rs, ids)) : view H (n + 1) (.agg cs) = some (.agg rs, ids) := by
  show (match viewL (view H n) cs with | some (xs, is) => some (AV.agg xs, is) | none => none) = _
  rw [h]
theorem vtup {H : Heap} {n : Nat} {cs rs : List AV} {ids : List Nat} (h : viewL (view H n) cs = some (rs, ids)) : view H (n + 1) (.tup cs) = some (.tup rs, ids) := by
  show (match viewL (view H n) cs with | some (xs, is) => some (AV.tup xs, is) | none => none) = _
  rw [h]
theorem vsl {H : Heap} {L : Kn} {k : Nat} {n id off len sz : Nat} {cap : Option Nat} {cs rs : List AV} {ids : List Nat} (hH : Has H L) (hc : L[k]? = some (id, .cells cs)) (hle : off + len * sz ≤ cs.length)
    (h : viewL (view H n) ((cs.drop off).take (len * sz)) = some (rs, ids)) : view H (n + 1) (.sl id off len sz cap) = some (.lst rs len cap, id :: ids) := by
  show (match H[id]? with | some (.cells cs) => if off + len * sz ≤ cs.length then (match viewL (view H n) ((cs.drop off).take (len * sz)) with | some (xs, is) => some (AV.lst xs len cap, id :: is) | none => none) else none | _ => none) = _
  rw [hH.get _ _ _ hc]
  simp only
  rw [if_pos hle, h]
theorem vnil {f : AV → Option (AV × List Nat)} : viewL f [] = some ([], []) := rfl
theorem vcons {f : AV → Option (AV × List Nat)} {v r : AV} {vs rs : List AV} {is js : List Nat} (h1 : f v = some (r, is)) (h2 : viewL f vs = some (rs, js)) : viewL f (v :: vs) = some (r :: rs, is ++ js) := by
  simp only [viewL, h1, h2]
theorem vflat {H : Heap} {n : Nat} {v : AV} (h : isFlat v = true) : view H (n + 1) v = some (v, []) := by
  cases v <;> simp [isFlat] at h <;> rfl
theorem vflats {H : Heap} {n : Nat} : ∀ {l : List AV}, l.all isFlat = true → viewL (view H (n + 1)) l = some (l, [])
  | [], _ => rfl
  | c :: l, h => by
    simp only [List.all_cons, Bool.and_eq_true] at h
    have := vcons (f := view H (n + 1)) (vflat (H := H) (n := n) h.1) (vflats (H := H) (n := n) h.2)
    simpa using this
theorem fc {x : AV} {l : List AV} (h : isFlat x = true) (k : l.all isFlat = true) : (x :: l).all isFlat = true := by simp [List.all_cons, h] at k ⊢; exact k
theorem fn0 : ([] : List AV).all isFlat = true := rfl
theorem one_of_flat {v : AV} (h : isFlat v = true) : oneCell v = true := by cases v <;> simp [isFlat] at h <;> rfl
theorem of1 : ∀ {l : List AV}, l.all isFlat = true → l.all oneCell = true
  | [], _ => rfl
  | c :: l, h => by
    simp only [List.all_cons, Bool.and_eq_true] at h ⊢
    exact ⟨one_of_flat h.1, of1 h.2⟩
theorem cells_of_flat {v : AV} (h : isFlat v = true) : v.cells = [v] := by cases v <;> simp [isFlat] at h <;> rfl

/-! ### Runs that memory has no part in -/

def pureRun (E : Env) (ops : List Oper) : Nat → List Oper → List AV → Option (List AV)
  | 0, _, T => some T
  | _ + 1, [], _ => none
  | n + 1, o :: os, T => if wantedA ops T o then (if quietOp o.op then (match axOp E noR T [] o with
      | some (v, _) => pureRun E ops n os (put T o.dst v)
      | none => none) else none) else pureRun E ops n os (put T o.dst .undef)

theorem loadA_nil {P : Program} {t : TypeId} {p v : AV} (h : loadA P [] t p = some v) (H : Heap) : loadA P H t p = some v := by
  unfold loadA at h ⊢
  split at h <;> first | exact h | simp at h

theorem sliceA_nil {P : Program} {t : TypeId} {x v : AV} {a b c : Option AV} (h : sliceA P [] t x a b c = some v) (H : Heap) : sliceA P H t x a b c = some v := by
  unfold sliceA at h ⊢
  split at h <;> first | exact h | skip
  all_goals (split at h <;> simp at h)

theorem builtin_nil {P : Program} {b : Builtin} {ts : List TypeId} {args : List AV} {H0 : Heap} {v : AV} {xs : Array Operand} {ats : Array TypeId} (hq : quietOp (.call { callee := .builtin b, args := xs, argTypes := ats }) = true) (h : builtinA P b ts [] args = some (v, H0)) (H : Heap) : builtinA P b ts H args = some (v, H) := by
  cases b <;> simp only [quietOp, Bool.false_eq_true] at hq
  · rcases ts with _ | ⟨t, ts⟩ <;> rcases args with _ | ⟨x, l⟩ <;> simp only [builtinA, reduceCtorEq] at h ⊢
    generalize P.underlying t = u at h ⊢
    cases u with
    | none => simp at h
    | some d => cases d <;> simp at h ⊢ <;> first | exact h.1 | (cases x <;> simp at h ⊢ <;> exact h.1)
  all_goals
    rcases args with _ | ⟨x, l⟩
    · simp [builtinA] at h
    · cases x <;> simp only [builtinA, reduceCtorEq] at h ⊢
      rename_i k n
      cases hf : foldA _ k n l <;> simp only [hf, Option.map_none, Option.map_some, reduceCtorEq, Option.some.injEq, Prod.mk.injEq] at h ⊢
      exact ⟨h.1, trivial⟩

theorem quiet_calls {E : Env} {R : Rec} {T : List AV} {H H' : Heap} {o : Oper} {v : AV} (hq : quietOp o.op = true) (h : axOp E R T H o = some (v, H')) : H' = H := quiet_heap hq h

theorem quiet_nil {E : Env} {T : List AV} {H0 : Heap} {o : Oper} {v : AV} (hq : quietOp o.op = true) (h : axOp E noR T [] o = some (v, H0)) (H : Heap) : axOp E noR T H o = some (v, H) := by
  have hk : ∀ {x : Option AV} {K : Heap}, keep [] x = some (v, K) → keep H x = some (v, H) := by
    intro x K h
    cases x <;> simp [keep] at h ⊢
    exact h.1
  obtain ⟨dst, op, type, pos, after, guard⟩ := o
  cases op <;> simp only [quietOp, Bool.false_eq_true, reduceCtorEq] at hq <;> simp only [axOp] at h ⊢
  case move => exact hk h
  case assign => exact hk h
  case pick => split at h <;> first | exact hk h | simp at h
  case build =>
    split at h <;> try (simp at h; done)
    · split at h <;> first | exact hk h | simp at h
    · split at h <;> first | exact hk h | simp at h
  case load =>
    split at h <;> try (simp at h; done)
    rename_i t a _ p hp
    have : loadA E.P [] t p = some v := by
      cases hl : loadA E.P [] t p <;> simp [keep, hl] at h ⊢
      exact h.1
    simp [loadA_nil this H, keep]
  case nilCheck => split at h <;> simp at h ⊢ <;> exact h.1
  case binOp => split at h <;> first | exact hk h | simp at h
  case unOp => split at h <;> first | exact hk h | simp at h
  case convert => split at h <;> first | exact hk h | simp at h
  case makeInterface => split at h <;> simp at h ⊢; exact h.1
  case makeFunc => split at h <;> simp at h ⊢; exact h.1
  case slice t x a b c =>
    split at h <;> try (simp at h; done)
    rename_i v0 a0 b0 c0 h1 h2 h3 h4
    have : sliceA E.P [] t v0 a0 b0 c0 = some v := by
      cases hl : sliceA E.P [] t v0 a0 b0 c0 <;> simp [keep, hl] at h ⊢
      exact h.1
    simp [sliceA_nil this H, keep]
  case fieldAddr =>
    split at h <;> try (simp at h; done)
    split at h <;> first | exact hk h | simp at h
  case field => split at h <;> first | exact hk h | simp at h
  case indexAddr => split at h <;> first | exact hk h | simp at h
  case index => split at h <;> first | exact hk h | simp at h
  case typeAssert =>
    split at h <;> try (simp at h; done)
    · split at h
      · rename_i hc
        rw [if_pos hc]
        simp only [Option.some.injEq, Prod.mk.injEq] at h ⊢
        exact ⟨h.1, trivial⟩
      · rename_i hc
        rw [if_neg hc]
        split at h <;> try (simp at h; done)
        rename_i hc2
        rw [if_pos hc2]
        split at h <;> try (simp at h; done)
        simp only [Option.some.injEq, Prod.mk.injEq] at h ⊢
        exact ⟨h.1, trivial⟩
    · split at h <;> try (simp at h; done)
      rename_i hc2
      rw [if_pos hc2]
      split at h <;> try (simp at h; done)
      simp only [Option.some.injEq, Prod.mk.injEq] at h ⊢
      exact ⟨h.1, trivial⟩
  case extract => split at h <;> first | exact hk h | simp at h
  case call c =>
    obtain ⟨callee, args, ats⟩ := c
    cases callee with
    | value f => simp at hq
    | invoke r m => simp at hq
    | builtin b =>
      simp only at h ⊢
      split at h <;> try (simp at h; done)
      exact builtin_nil hq h H

end Go.AX

/- AX, part 51: walking with the kernel: the rules. -/
set_option linter.unusedVariables false
set_option linter.unusedSimpArgs false
namespace Go.AX
open Go Go.RowKit Go.Proofs

theorem Th_n {p q : Prop} (h : p) : Th .normal p q := h
theorem Th_e {p q : Prop} {i : Nat} (h : q) : Th (.exit i) p q := h
theorem Th_r {p q : Prop} (h : q) : Th .ret p q := h

def Bk (id : Nat) (ex : Ex) (p q : Prop) : Prop := match ex with | .exit i => if i = id then p else q | _ => q
theorem Bk_s {id : Nat} {p q : Prop} (h : p) : Bk id (.exit id) p q := by unfold Bk; simpa using h
theorem Bk_o {id i : Nat} {p q : Prop} (hne : Nat.beq i id = false) (h : q) : Bk id (.exit i) p q := by
  unfold Bk
  have : i ≠ id := fun e => by subst e; simp at hne
  simpa [this] using h
theorem Bk_n {id : Nat} {p q : Prop} (h : q) : Bk id .normal p q := h
theorem Bk_r {id : Nat} {p q : Prop} (h : q) : Bk id .ret p q := h

section
variable {E : Env} {Q : Ex → St → Prop} {T : List AV} {H : Heap}

theorem W.blk {id : Nat} {b : Code} {s : St} (h : W E b (fun ex s' => Bk id ex (Q .normal s') (Q ex s')) s) : W E (.block id b) Q s := by
  refine W.block (W.mono h fun ex s' hq => ?_)
  cases ex with
  | exit i =>
    unfold Bk at hq
    simp only at hq
    by_cases hi : i = id
    · simp only [outOf, hi, if_true] at hq ⊢; exact hq
    · simp only [outOf, hi, if_false] at hq ⊢; exact hq
  | normal => exact hq
  | goto l => exact hq
  | ret => exact hq

theorem W.condT {c : Operand} {x y : Code} (hc : ev T c = some (.bool true)) (h : W E x Q ⟨T, H⟩) : W E (.cond c x y) Q ⟨T, H⟩ := W.cond (b := true) hc (fun _ => h) (fun e => by simp at e)
theorem W.condF {c : Operand} {x y : Code} (hc : ev T c = some (.bool false)) (h : W E y Q ⟨T, H⟩) : W E (.cond c x y) Q ⟨T, H⟩ := W.cond (b := false) hc (fun e => by simp at e) (fun _ => h)

/-- Scopes that are not left by goto. -/
def Sc (ex : Ex) (p : Prop) : Prop := match ex with | .goto _ => False | _ => p
theorem Sc_n {p : Prop} (h : p) : Sc .normal p := h
theorem Sc_e {p : Prop} {i : Nat} (h : p) : Sc (.exit i) p := h
theorem Sc_r {p : Prop} (h : p) : Sc .ret p := h
theorem W.scp {b : Code} {s : St} (h : W E b (fun ex s' => Sc ex (Q ex s')) s) : W E (.scope b) Q s := by
  refine W.scope (W.mono h fun ex s' hq => ?_)
  cases ex with
  | goto l => exact hq.elim
  | exit i => exact ⟨fun l => by simp, hq⟩
  | normal => exact ⟨fun l => by simp, hq⟩
  | ret => exact ⟨fun l => by simp, hq⟩

theorem W.lp {b : Code} (I : List AV → Nat → List AV → Heap → Prop) (n : Nat) (h0 : I T n T H) (h : ∀ n T' H', I T n T' H' → W E b (fun ex s' => Th ex (∃ m, m < n ∧ I T m s'.T s'.H) (Q ex s')) ⟨T', H'⟩) : W E (.loop b) Q ⟨T, H⟩ :=
  W.loop (fun n s => I T n s.T s.H) h0 fun n s hI => h n s.T s.H hI

/-- A cut: what comes next is shown once for all states of a kind. -/
theorem W.cut {a b : Code} (J : List AV → List AV → Heap → Prop) (h2 : ∀ T' H', J T T' H' → W E b Q ⟨T', H'⟩) (h1 : W E a (fun ex s1 => Th ex (J T s1.T s1.H) (Q ex s1)) ⟨T, H⟩) : W E (.seq a b) Q ⟨T, H⟩ := by
  refine W.seq (W.mono h1 fun ex s1 h => ?_)
  cases ex with
  | normal => exact h2 _ _ h
  | exit i => exact h
  | goto i => exact h
  | ret => exact h

end

/-! ### What is known -/

abbrev SpT := FuncId → List AV → AV → Prop

open Classical in
/-- The program, and what is known of it, by a table. -/
noncomputable def ES (Sp : SpT) : Env where
  P := Tryz.prog
  kind := fun f => if inl.contains f then 0 else 2
  O := fun f args => if h : Con f args (Sp f args) then some h.2.choose else none

theorem es_known {Sp : SpT} : KnownOK (ES Sp) := by
  intro f args r h
  simp only [ES] at h
  split at h
  · rename_i hc
    simp only [Option.some.injEq] at h
    subst h
    exact ⟨hc.1, hc.2.choose_spec.1⟩
  · simp at h

theorem es_O {Sp : SpT} {f : FuncId} {args : List AV} (h : Con f args (Sp f args)) : ∃ r, (ES Sp).O f args = some r ∧ Sp f args r := by
  refine ⟨h.2.choose, ?_, h.2.choose_spec.2⟩
  simp only [ES]
  rw [dif_pos h]

theorem es_con {Sp : SpT} {f : FuncId} {fn : Func} {c : Code} {xs : List AV} {P : AV → Prop} (hf : Tryz.prog.funcs[f]? = some fn) (hb : fn.body = some c)
    (h : W (ES Sp) c (fun ex s' => (ex = .normal ∨ ex = .ret) ∧ ∃ r, resultsA Tryz.prog fn s' = some r ∧ ∃ r' ids, view s'.H depthA r = some (r', ids) ∧ P r') ⟨xs ++ List.replicate (fn.ntmps - xs.length) .undef, []⟩) : Con f xs P := by
  obtain ⟨r, H', h1, r', ids, h2, h3⟩ := W.fn (E := ES Sp) (K := fun r H' => ∃ r' ids, view H' depthA r = some (r', ids) ∧ P r') hf hb h
  exact ⟨⟨fn, c, hf, hb⟩, r', EvF.pure prog_ok es_known h1 h2, h3⟩

theorem es_call {Sp : SpT} {f : FuncId} {args xs : List AV} {H : Heap} {ids : List Nat} {K : AV → Heap → Prop} (hk : inl.contains f = false) (hv : viewL (view H depthA) args = some (xs, ids)) (h : Con f xs (Sp f xs)) (hK : ∀ r, (ES Sp).O f xs = some r → Sp f xs r → K r (AX.kill H ids)) : CallW (ES Sp) (.func (.func f) [] []) args H K := by
  obtain ⟨r, h1, h2⟩ := es_O h
  refine ⟨f, [], [], r, AX.kill H ids, rfl, ?_, hK r h1 h2⟩
  have : ([] : List AV) ++ args ++ [] = args := by simp
  rw [this]
  exact EvC.oracle (by simp [ES]; simpa using hk) hv h1

/-! ### Operations -/

section
variable {E : Env} {Sp : SpT} {ops os : List Oper} {o : Oper} {Q : St → Prop} {T : List AV} {H : Heap}

theorem WOps.e0 {s : St} (h : Q s) : WOps E ops [] Q s := h

theorem WOps.go1 {v : AV} {H' : Heap} (hw : wantedA ops T o = true) (hc : calleeOf o.op = none) (h : axOp E noR T H o = some (v, H')) (k : WOps E ops os Q ⟨put T o.dst v, H'⟩) : WOps E ops (o :: os) Q ⟨T, H⟩ := by
  simp only [WOps]
  rw [if_pos hw]
  unfold WOne
  rw [hc]
  exact ⟨v, H', h, k⟩

/-- An operation whose result is shown by hand. -/
theorem WOps.v1 (v : AV) (h : axOp E noR T H o = some (v, H)) (hw : wantedA ops T o = true) (hc : calleeOf o.op = none) (k : WOps E ops os Q ⟨put T o.dst v, H⟩) : WOps E ops (o :: os) Q ⟨T, H⟩ := WOps.go1 hw hc h k

theorem WOps.gen (v : AV) {L : Kn} (h : ∃ H', axOp E noR T H o = some (v, H') ∧ Has H' L) (hw : wantedA ops T o = true) (hc : calleeOf o.op = none) (k : ∀ H', Has H' L → WOps E ops os Q ⟨put T o.dst v, H'⟩) : WOps E ops (o :: os) Q ⟨T, H⟩ := by
  obtain ⟨H', h1, h2⟩ := h
  exact WOps.go1 hw hc h1 (k H' h2)

theorem WOps.v2 (v0 v : AV) (e : v0 = v) (h : axOp E noR T H o = some (v0, H)) (hw : wantedA ops T o = true) (hc : calleeOf o.op = none) (k : WOps E ops os Q ⟨put T o.dst v, H⟩) : WOps E ops (o :: os) Q ⟨T, H⟩ := WOps.go1 hw hc (e ▸ h) k

theorem WOps.vk (v : AV) {X : Option AV} (e : X = some v) (h : axOp E noR T H o = keep H X) (hw : wantedA ops T o = true) (hc : calleeOf o.op = none) (k : WOps E ops os Q ⟨put T o.dst v, H⟩) : WOps E ops (o :: os) Q ⟨T, H⟩ := WOps.go1 hw hc (by rw [h, e]; rfl) k

theorem WOps.vb (v : AV) {X : Option (AV × Heap)} (e : X = some (v, H)) (h : axOp E noR T H o = X) (hw : wantedA ops T o = true) (hc : calleeOf o.op = none) (k : WOps E ops os Q ⟨put T o.dst v, H⟩) : WOps E ops (o :: os) Q ⟨T, H⟩ := WOps.go1 hw hc (by rw [h, e]) k

theorem WOps.skip1 (hw : wantedA ops T o = false) (k : WOps E ops os Q ⟨put T o.dst .undef, H⟩) : WOps E ops (o :: os) Q ⟨T, H⟩ := by
  simp only [WOps]
  rw [if_neg (by rw [hw]; decide)]
  exact k

theorem pureRun_wops : ∀ (n : Nat) (os : List Oper) (T T' : List AV), pureRun E ops n os T = some T' → WOps E ops (os.drop n) Q ⟨T', H⟩ → WOps E ops os Q ⟨T, H⟩
  | 0, os, T, T', h, k => by
    simp [pureRun] at h
    subst h
    exact k
  | n + 1, [], T, T', h, k => by simp [pureRun] at h
  | n + 1, o :: os, T, T', h, k => by
    simp only [pureRun] at h
    split at h
    · rename_i hw
      split at h <;> try (simp at h; done)
      rename_i hq
      split at h <;> try (simp at h; done)
      rename_i v H0 ho
      have hc : calleeOf o.op = none := by
        unfold calleeOf
        split
        · rename_i f c a hop
          rw [hop] at hq
          simp [quietOp] at hq
        · rfl
      exact WOps.go1 hw hc (quiet_nil hq ho H) (pureRun_wops n os _ T' h k)
    · rename_i hw
      exact WOps.skip1 (by simpa using hw) (pureRun_wops n os _ T' h k)

/-- The first n of a list left out. -/
def Dr (n : Nat) (os os' : List Oper) : Prop := os.drop n = os'
theorem dr0 : Dr 0 os os := rfl
theorem dr1 {a : Oper} : Dr 1 (a :: os) os := rfl
theorem dr2 {a b : Oper} : Dr 2 (a :: b :: os) os := rfl
theorem dr3 {a b c : Oper} : Dr 3 (a :: b :: c :: os) os := rfl
theorem dr4 {a b c d : Oper} : Dr 4 (a :: b :: c :: d :: os) os := rfl
theorem dr5 {a b c d e : Oper} : Dr 5 (a :: b :: c :: d :: e :: os) os := rfl
theorem dr6 {a b c d e f : Oper} : Dr 6 (a :: b :: c :: d :: e :: f :: os) os := rfl
theorem dr7 {a b c d e f g : Oper} : Dr 7 (a :: b :: c :: d :: e :: f :: g :: os) os := rfl
theorem dr8 {a b c d e f g h : Oper} : Dr 8 (a :: b :: c :: d :: e :: f :: g :: h :: os) os := rfl
theorem dr9 {a b c d e f g h i : Oper} : Dr 9 (a :: b :: c :: d :: e :: f :: g :: h :: i :: os) os := rfl
theorem drx {a b c d e f g h i j : Oper} {n : Nat} {os' : List Oper} (k : Dr n os os') : Dr (n + 10) (a :: b :: c :: d :: e :: f :: g :: h :: i :: j :: os) os' := k

theorem WOps.run {n : Nat} {os' : List Oper} (hd : Dr n os os') (us : List (Nat × AV)) (h : pureRun E ops n os T = some (ups T us)) (k : WOps E ops os' Q ⟨ups T us, H⟩) : WOps E ops os Q ⟨T, H⟩ := pureRun_wops n os T _ h (by rw [show os.drop n = os' from hd]; exact k)

theorem WOps.ld {L : Kn} (hH : Has H L) (k : Nat) (off : Nat) (v : AV) {t : TypeId} {a : Operand} {id : Nat} {cs : List AV} (ho : o.op = .load t a) (hk : L[k]? = some (id, .cells cs)) (ha : ev T a = some (.ptr id off)) (hv : readAt E.P t cs off = some v) (hw : wantedA ops T o = true)
    (next : WOps E ops os Q ⟨put T o.dst v, H⟩) : WOps E ops (o :: os) Q ⟨T, H⟩ := by
  refine WOps.go1 (v := v) (H' := H) hw (by rw [ho]; rfl) ?_ next
  unfold axOp
  rw [ho]
  simp only [ha, loadA, hH.get _ _ _ hk, hv, keep]

theorem WOps.st {L : Kn} (hH : Has H L) (k : Nat) (off : Nat) (v : AV) (cs' : List AV) {t : TypeId} {a x : Operand} {id : Nat} {cs : List AV} (ho : o.op = .store t a x) (hk : L[k]? = some (id, .cells cs)) (h1 : v.cells.all oneCell = true) (ha : ev T a = some (.ptr id off)) (hx : ev T x = some v) (hs : sizeT E.P t = some v.cells.length)
    (hv : writeAt cs off v.cells = some cs') (hw : wantedA ops T o = true) (next : ∀ H', Has H' (L.set k (id, .cells cs')) → WOps E ops os Q ⟨put T o.dst .undef, H'⟩) : WOps E ops (o :: os) Q ⟨T, H⟩ := by
  refine WOps.go1 (v := .undef) (H' := H.set id (.cells cs')) hw (by rw [ho]; rfl) ?_ (next _ (hH.put hk _))
  unfold axOp
  rw [ho]
  simp only [ha, hx, storeA, hH.get _ _ _ hk, hs, h1, decide_true, Bool.and_self, if_true, hv]

theorem WOps.al {L : Kn} (hH : Has H L) (z : AV) {t : TypeId} (ho : o.op = .alloc t) (hz : zeroT E.P t = some z) (h1 : z.cells.all oneCell = true) (hw : wantedA ops T o = true)
    (next : ∀ id H', Has H' ((id, .cells z.cells) :: L) → WOps E ops os Q ⟨put T o.dst (.ptr id 0), H'⟩) : WOps E ops (o :: os) Q ⟨T, H⟩ := by
  refine WOps.go1 (v := .ptr H.length 0) (H' := H ++ [.cells z.cells]) hw (by rw [ho]; rfl) ?_ (next _ _ (hH.new _))
  unfold axOp
  rw [ho]
  simp only [hz, newA, h1, if_true]

theorem WOps.bx {L : Kn} (hH : Has H L) (v : AV) {t : TypeId} {x : Operand} (ho : o.op = .box t x) (h1 : v.cells.all oneCell = true) (hx : ev T x = some v) (hw : wantedA ops T o = true)
    (next : ∀ id H', Has H' ((id, .cells v.cells) :: L) → WOps E ops os Q ⟨put T o.dst (.ptr id 0), H'⟩) : WOps E ops (o :: os) Q ⟨T, H⟩ := by
  refine WOps.go1 (v := .ptr H.length 0) (H' := H ++ [.cells v.cells]) hw (by rw [ho]; rfl) ?_ (next _ _ (hH.new _))
  unfold axOp
  rw [ho]
  simp only [hx, newA, h1, if_true]

theorem WOps.bs {L : Kn} (hH : Has H L) (cs : List AV) {t e : TypeId} {len s : Nat} {z : AV} {parts : Array (Nat × Operand)} {ps : List (Nat × AV)} (ho : o.op = .buildSlice t len parts) (hu : E.P.underlying t = some (.slice e)) (hs : sizeT E.P e = some s) (hz : zeroT E.P e = some z) (hc : cs.all oneCell = true)
    (h1 : (decide (len * s ≤ 2 ^ 24) && (decide (z.cells.length = s) && decide (0 < s))) = true) (hp : evParts T parts.toList = some ps) (hf : fillA (fun i => some (i * s, s)) (copies len z.cells) ps = some cs) (hw : wantedA ops T o = true)
    (next : ∀ id H', Has H' ((id, .cells cs) :: L) → WOps E ops os Q ⟨put T o.dst (.sl id 0 len s (some len)), H'⟩) : WOps E ops (o :: os) Q ⟨T, H⟩ := by
  refine WOps.go1 (v := .sl H.length 0 len s (some len)) (H' := H ++ [.cells cs]) hw (by rw [ho]; rfl) ?_ (next _ _ (hH.new _))
  simp only [Bool.and_eq_true, decide_eq_true_eq] at h1
  unfold axOp
  rw [ho]
  simp only [hp, hu, hs, hz, h1, decide_true, Bool.and_self, if_true, hf, newA, hc]

inductive CE : List (Nat × AV) → List (Nat × List AV) → Prop
  | n : CE [] []
  | c {i : Nat} {v : AV} {cs : List AV} {ps : List (Nat × AV)} {qs : List (Nat × List AV)} : v.cells = cs → CE ps qs → CE ((i, v) :: ps) ((i, cs) :: qs)

def fillC (place : Nat → Option (Nat × Nat)) (cells : List AV) : List (Nat × List AV) → Option (List AV)
  | [] => some cells
  | (i, v) :: rest => match place i with
    | none => none
    | some (off, size) => if v.length = size then
        match writeAt cells off v with
        | some cells' => fillC place cells' rest
        | none => none
      else none

theorem CE.fill {place : Nat → Option (Nat × Nat)} : ∀ {ps : List (Nat × AV)} {qs : List (Nat × List AV)} {cells : List AV}, CE ps qs → fillA place cells ps = fillC place cells qs
  | _, _, _, .n => rfl
  | _, _, cells, .c (i := i) (v := v) rfl r => by
    simp only [fillA, fillC]
    cases place i with
    | none => rfl
    | some x =>
      obtain ⟨off, size⟩ := x
      simp only
      by_cases hc : v.cells.length = size
      · simp only [hc, if_true]
        cases writeAt cells off v.cells with
        | none => rfl
        | some c => exact r.fill
      · simp only [hc, if_false]

def structPlaces (P : Program) (t : TypeId) : Option (List (Nat × Nat)) := match P.underlying t with
  | some (.struct fs) => fs.toList.mapM fun f => (P.info? f.type).map fun i => (f.offset, i.size)
  | _ => none

theorem WOps.bd (cs : List AV) {t : TypeId} {z : AV} {pl : List (Nat × Nat)} {parts : Array (Nat × Operand)} {ps : List (Nat × AV)} {qs : List (Nat × List AV)} (hce : CE ps qs) (ho : o.op = .build t parts) (hz : zeroT E.P t = some z) (hpl : structPlaces E.P t = some pl)
    (hp : evParts T parts.toList = some ps) (hf : fillC (fun i => pl[i]?) z.cells qs = some cs) (hw : wantedA ops T o = true)
    (next : WOps E ops os Q ⟨put T o.dst (.agg cs), H⟩) : WOps E ops (o :: os) Q ⟨T, H⟩ := by
  refine WOps.go1 (v := .agg cs) (H' := H) hw (by rw [ho]; rfl) ?_ next
  unfold structPlaces at hpl
  split at hpl <;> try (simp at hpl; done)
  rename_i fs hu
  unfold axOp
  rw [ho]
  simp only [hp, hz, hu, hpl, hce.fill, hf, keep, Option.map_some]

theorem WOps.bsc {L : Kn} (hH : Has H L) (cs : List AV) {t e : TypeId} {len s : Nat} {z : AV} {parts : Array (Nat × Operand)} {ps : List (Nat × AV)} {qs : List (Nat × List AV)} (hce : CE ps qs) (hc : cs.all oneCell = true) (ho : o.op = .buildSlice t len parts) (hu : E.P.underlying t = some (.slice e)) (hs : sizeT E.P e = some s) (hz : zeroT E.P e = some z)
    (h1 : (decide (len * s ≤ 2 ^ 24) && (decide (z.cells.length = s) && decide (0 < s))) = true) (hp : evParts T parts.toList = some ps) (hf : fillC (fun i => some (i * s, s)) (copies len z.cells) qs = some cs) (hw : wantedA ops T o = true)
    (next : ∀ id H', Has H' ((id, .cells cs) :: L) → WOps E ops os Q ⟨put T o.dst (.sl id 0 len s (some len)), H'⟩) : WOps E ops (o :: os) Q ⟨T, H⟩ :=
  WOps.bs hH cs ho hu hs hz hc h1 hp (by rw [hce.fill]; exact hf) hw next

theorem oc1 {x : AV} {l : List AV} (h : oneCell x = true) (k : l.all oneCell = true) : (x :: l).all oneCell = true := by simp [List.all_cons, h] at k ⊢; exact k
theorem oc0 : ([] : List AV).all oneCell = true := rfl

/-- A value whose cells are these, put into a variable of its own. -/
theorem WOps.bxc {L : Kn} (hH : Has H L) (v : AV) (cs : List AV) (hv : v.cells = cs) (h1 : cs.all oneCell = true) {t : TypeId} {x : Operand} (ho : o.op = .box t x) (hx : ev T x = some v) (hw : wantedA ops T o = true)
    (next : ∀ id H', Has H' ((id, .cells cs) :: L) → WOps E ops os Q ⟨put T o.dst (.ptr id 0), H'⟩) : WOps E ops (o :: os) Q ⟨T, H⟩ := by
  subst hv
  exact WOps.bx hH v ho h1 hx hw next

theorem WOps.stc {L : Kn} (hH : Has H L) (k : Nat) (off : Nat) (v : AV) (vs : List AV) (hvs : v.cells = vs) (cs' : List AV) {t : TypeId} {a x : Operand} {id : Nat} {cs : List AV} (ho : o.op = .store t a x) (hk : L[k]? = some (id, .cells cs)) (h1 : vs.all oneCell = true) (ha : ev T a = some (.ptr id off)) (hx : ev T x = some v) (hs : sizeT E.P t = some vs.length)
    (hv : writeAt cs off vs = some cs') (hw : wantedA ops T o = true) (next : ∀ H', Has H' (L.set k (id, .cells cs')) → WOps E ops os Q ⟨put T o.dst .undef, H'⟩) : WOps E ops (o :: os) Q ⟨T, H⟩ := by
  subst hvs
  exact WOps.st hH k off v cs' ho hk h1 ha hx hs hv hw next

theorem WOps.call0 {f : Operand} {args : Array Operand} {g : FuncId} {ys xs : List AV} (hv : viewL (view H depthA) ys = some (xs, [])) (hcon : Con g xs (Sp g xs)) (ho : calleeOf o.op = some (f, args)) (ha : evs T args.toList = some ys) (hf : ev T f = some (.func (.func g) [] [])) (hk : inl.contains g = false)
    (hw : wantedA ops T o = true) (next : ∀ r, (ES Sp).O g xs = some r → Sp g xs r → WOps (ES Sp) ops os Q ⟨put T o.dst r, H⟩) : WOps (ES Sp) ops (o :: os) Q ⟨T, H⟩ := by
  simp only [WOps]
  rw [if_pos hw]
  unfold WOne
  simp only [ho, ha, hf]
  exact es_call hk hv hcon fun r hO hr => next r hO hr

/-- A call to which blocks are handed. -/
theorem WOps.callk {L : Kn} (hH : Has H L) (ds ks : List Nat) (hn : (ds ++ ks).Nodup) {f : Operand} {args : Array Operand} {g : FuncId} {ys xs : List AV} {ids : List Nat} (hv : viewL (view H depthA) ys = some (xs, ids)) (hd : ids = (ds.filterMap fun k => L[k]?).map (·.1)) (hcon : Con g xs (Sp g xs)) (ho : calleeOf o.op = some (f, args)) (ha : evs T args.toList = some ys) (hf : ev T f = some (.func (.func g) [] [])) (hk : inl.contains g = false)
    (hw : wantedA ops T o = true) (next : ∀ r, (ES Sp).O g xs = some r → Sp g xs r → ∀ H', Has H' (ks.filterMap fun k => L[k]?) → WOps (ES Sp) ops os Q ⟨put T o.dst r, H'⟩) : WOps (ES Sp) ops (o :: os) Q ⟨T, H⟩ := by
  simp only [WOps]
  rw [if_pos hw]
  unfold WOne
  simp only [ho, ha, hf]
  exact es_call hk hv hcon fun r hO hr => next r hO hr _ (hH.kills ds ks hd hn)

theorem WOps.call {f : Operand} {args : Array Operand} {g : FuncId} {ys xs : List AV} {ids : List Nat} (hv : viewL (view H depthA) ys = some (xs, ids)) (hcon : Con g xs (Sp g xs)) (ho : calleeOf o.op = some (f, args)) (ha : evs T args.toList = some ys) (hf : ev T f = some (.func (.func g) [] [])) (hk : inl.contains g = false)
    (hw : wantedA ops T o = true) (next : ∀ r, (ES Sp).O g xs = some r → Sp g xs r → WOps (ES Sp) ops os Q ⟨put T o.dst r, AX.kill H ids⟩) : WOps (ES Sp) ops (o :: os) Q ⟨T, H⟩ := by
  simp only [WOps]
  rw [if_pos hw]
  unfold WOne
  simp only [ho, ha, hf]
  exact es_call hk hv hcon fun r hO hr => next r hO hr

end

/-! ### Functions -/

/-- The end of a function. -/
def Ret (fn : Func) (P : AV → Prop) (ex : Ex) (s : St) : Prop := (ex = .normal ∨ ex = .ret) ∧ ∃ r, resultsA Tryz.prog fn s = some r ∧ ∃ r' ids, view s.H depthA r = some (r', ids) ∧ P r'

theorem con_ret {Sp : SpT} {f : FuncId} {fn : Func} {c : Code} {xs : List AV} {P : AV → Prop} (hf : Tryz.prog.funcs[f]? = some fn) (hb : fn.body = some c)
    (h : W (ES Sp) c (Ret fn P) ⟨xs ++ List.replicate (fn.ntmps - xs.length) .undef, []⟩) : Con f xs P := es_con hf hb h

section
variable {fn : Func} {P : AV → Prop} {T : List AV} {H : Heap} {ids : List Nat}

theorem ret_t {ex : Ex} {t : Nat} {r r' : AV} (h : P r') (hex : ex = .normal ∨ ex = .ret) (hr : fn.results.toList = [.tmp t]) (ht : T.getD t .undef = r) (hv : view H depthA r = some (r', ids)) : Ret fn P ex ⟨T, H⟩ := by
  refine ⟨hex, r, ?_, r', ids, hv, h⟩
  unfold resultsA
  simp only [hr, resultsL, ht]

theorem ret_c {ex : Ex} {a t : Nat} {r r' : AV} {L : Kn} (h : P r') (hH : Has H L) (k : Nat) {id off : Nat} {cs : List AV} (hk : L[k]? = some (id, .cells cs)) (hex : ex = .normal ∨ ex = .ret) (hr : fn.results.toList = [.cell a t]) (ht : T.getD a .undef = .ptr id off) (hc : readAt Tryz.prog t cs off = some r) (hv : view H depthA r = some (r', ids)) : Ret fn P ex ⟨T, H⟩ := by
  refine ⟨hex, r, ?_, r', ids, hv, h⟩
  unfold resultsA
  simp only [hr, resultsL, ht, loadA, hH.get _ _ _ hk, hc]

theorem ret_ct {ex : Ex} {a t t2 : Nat} {r r2 r' : AV} {L : Kn} (h : P r') (hH : Has H L) (k : Nat) {id off : Nat} {cs : List AV} (hk : L[k]? = some (id, .cells cs)) (hex : ex = .normal ∨ ex = .ret) (hr : fn.results.toList = [.cell a t, .tmp t2]) (ht : T.getD a .undef = .ptr id off) (hc : readAt Tryz.prog t cs off = some r) (ht2 : T.getD t2 .undef = r2) (hv : view H depthA (.tup [r, r2]) = some (r', ids)) : Ret fn P ex ⟨T, H⟩ := by
  refine ⟨hex, .tup [r, r2], ?_, r', ids, hv, h⟩
  unfold resultsA
  simp only [hr, resultsL, ht, loadA, hH.get _ _ _ hk, hc, ht2]

theorem ret_tt {ex : Ex} {t t2 : Nat} {r r2 r' : AV} (h : P r') (hex : ex = .normal ∨ ex = .ret) (hr : fn.results.toList = [.tmp t, .tmp t2]) (ht : T.getD t .undef = r) (ht2 : T.getD t2 .undef = r2) (hv : view H depthA (.tup [r, r2]) = some (r', ids)) : Ret fn P ex ⟨T, H⟩ := by
  refine ⟨hex, .tup [r, r2], ?_, r', ids, hv, h⟩
  unfold resultsA
  simp only [hr, resultsL, ht, ht2]

end

/-! ### Regions of open order -/

section
variable {E : Env} {Sp : SpT} {ops os : List Oper} {o : Oper} {Q : St → Prop} {T : List AV} {H : Heap} {A : Heap → Prop} {fin : Bool}

theorem WD.e0 {s : St} (h : Q s) : WD E ops A fin [] Q s := h

theorem WD.quiet1 {v : AV} (hl : loudOp o = false) (hw : wantedA ops T o = true) (hc : calleeOf o.op = none) (hv : ∀ K, A K ∨ K = H → axOp E noR T K o = some (v, K)) (h : WD E ops A fin os Q ⟨put T o.dst v, H⟩) : WD E ops A fin (o :: os) Q ⟨T, H⟩ := by
  simp only [WD]
  rw [if_neg (by rw [hl]; decide)]
  refine ⟨v, fun K hK R => ?_, h⟩
  unfold axOne
  rw [if_pos hw, axOp_noR hc]
  exact hv K hK

theorem WD.skip1 (hw : wantedA ops T o = false) (h : WD E ops A fin os Q ⟨put T o.dst .undef, H⟩) : WD E ops A fin (o :: os) Q ⟨T, H⟩ := by
  simp only [WD]
  have hw' : ¬ wantedA ops T o = true := by rw [hw]; decide
  split
  · exact h
  · refine ⟨.undef, fun K hK R => ?_, h⟩
    unfold axOne
    rw [if_neg hw']

theorem pureRun_wd : ∀ (n : Nat) (os : List Oper) (T T' : List AV), pureRun E ops n os T = some T' → WD E ops A fin (os.drop n) Q ⟨T', H⟩ → WD E ops A fin os Q ⟨T, H⟩
  | 0, os, T, T', h, k => by
    simp [pureRun] at h
    subst h
    exact k
  | n + 1, [], T, T', h, k => by simp [pureRun] at h
  | n + 1, o :: os, T, T', h, k => by
    simp only [pureRun] at h
    split at h
    · rename_i hw
      split at h <;> try (simp at h; done)
      rename_i hq
      split at h <;> try (simp at h; done)
      rename_i v H0 ho
      have hc : calleeOf o.op = none := by
        unfold calleeOf
        split
        · rename_i f c a hop
          rw [hop] at hq
          simp [quietOp] at hq
        · rfl
      exact WD.quiet1 (by simp [loudOp, hq]) hw hc (fun K _ => quiet_nil hq ho K) (pureRun_wd n os _ T' h k)
    · rename_i hw
      exact WD.skip1 (by simpa using hw) (pureRun_wd n os _ T' h k)

theorem WD.run {n : Nat} {os' : List Oper} (hd : Dr n os os') (us : List (Nat × AV)) (h : pureRun E ops n os T = some (ups T us)) (k : WD E ops A fin os' Q ⟨ups T us, H⟩) : WD E ops A fin os Q ⟨T, H⟩ := pureRun_wd n os T _ h (by rw [show os.drop n = os' from hd]; exact k)

theorem WD.v1 (v : AV) (h : ∀ K, axOp E noR T K o = some (v, K)) (hw : wantedA ops T o = true) (hl : loudOp o = false) (hc : calleeOf o.op = none) (k : WD E ops A fin os Q ⟨put T o.dst v, H⟩) : WD E ops A fin (o :: os) Q ⟨T, H⟩ := WD.quiet1 hl hw hc (fun K _ => h K) k

theorem WD.v2 (v0 v : AV) (e : v0 = v) (h : ∀ K, axOp E noR T K o = some (v0, K)) (hw : wantedA ops T o = true) (hl : loudOp o = false) (hc : calleeOf o.op = none) (k : WD E ops A fin os Q ⟨put T o.dst v, H⟩) : WD E ops A fin (o :: os) Q ⟨T, H⟩ := WD.quiet1 hl hw hc (fun K _ => e ▸ h K) k

theorem WD.vk (v : AV) {X : Option AV} (e : X = some v) (h : ∀ K, axOp E noR T K o = keep K X) (hw : wantedA ops T o = true) (hl : loudOp o = false) (hc : calleeOf o.op = none) (k : WD E ops A fin os Q ⟨put T o.dst v, H⟩) : WD E ops A fin (o :: os) Q ⟨T, H⟩ := WD.quiet1 hl hw hc (fun K _ => by rw [h, e]; rfl) k

theorem WD.vb (v : AV) {X : Heap → Option (AV × Heap)} (e : ∀ K, X K = some (v, K)) (h : ∀ K, axOp E noR T K o = X K) (hw : wantedA ops T o = true) (hl : loudOp o = false) (hc : calleeOf o.op = none) (k : WD E ops A fin os Q ⟨put T o.dst v, H⟩) : WD E ops A fin (o :: os) Q ⟨T, H⟩ := WD.quiet1 hl hw hc (fun K _ => by rw [h, e]) k

theorem WD.ld {L LA : Kn} (hH : Has H L) (ks : List Nat) (hn : ks.Nodup) (hL : LA = ks.filterMap fun k => L[k]?) (k : Nat) (off : Nat) (v : AV) {t : TypeId} {a : Operand} {id : Nat} {cs : List AV} (ho : o.op = .load t a) (hk : LA[k]? = some (id, .cells cs)) (ha : ev T a = some (.ptr id off)) (hv : readAt E.P t cs off = some v) (hw : wantedA ops T o = true)
    (next : WD E ops (fun K => Has K LA) fin os Q ⟨put T o.dst v, H⟩) : WD E ops (fun K => Has K LA) fin (o :: os) Q ⟨T, H⟩ := by
  have hHA : Has H LA := hL ▸ hH.pick ks hn
  refine WD.quiet1 (v := v) (by unfold loudOp; rw [ho]; rfl) hw (by rw [ho]; rfl) (fun K hK => ?_) next
  have hK' : Has K LA := hK.elim (fun h => h) fun e => e ▸ hHA
  unfold axOp
  rw [ho]
  simp only [ha, loadA, hK'.get _ _ _ hk, hv, keep]

theorem WD.call {LA : Kn} {f : Operand} {args : Array Operand} {g : FuncId} {ys xs : List AV} {ids : List Nat} (hv : viewL (view H depthA) ys = some (xs, ids)) (hcon : Con g xs (Sp g xs)) (hA : Has (AX.kill H ids) LA) (ho : calleeOf o.op = some (f, args)) (ha : evs T args.toList = some ys) (hf : ev T f = some (.func (.func g) [] [])) (hk : inl.contains g = false)
    (hl : loudOp o = true) (hw : wantedA ops T o = true) (next : ∀ r, (ES Sp).O g xs = some r → Sp g xs r → WD (ES Sp) ops (fun K => Has K LA) fin os Q ⟨put T o.dst r, AX.kill H ids⟩) : WD (ES Sp) ops (fun K => Has K LA) fin (o :: os) Q ⟨T, H⟩ := by
  simp only [WD]
  rw [if_pos hl, if_pos hw]
  unfold WOne
  simp only [ho, ha, hf]
  exact es_call hk hv hcon fun r hO hr => ⟨fun _ => hA, next r hO hr⟩

/-- A loud operation. -/
theorem WD.go1 {v : AV} {H' : Heap} (hl : loudOp o = true) (hw : wantedA ops T o = true) (hc : calleeOf o.op = none) (h : axOp E noR T H o = some (v, H')) (hA : (os.any loudOp || fin) = true → A H') (k : WD E ops A fin os Q ⟨put T o.dst v, H'⟩) : WD E ops A fin (o :: os) Q ⟨T, H⟩ := by
  simp only [WD]
  rw [if_pos hl, if_pos hw]
  unfold WOne
  rw [hc]
  exact ⟨v, H', h, hA, k⟩

theorem WD.gen (v : AV) {L LA : Kn} (h : ∃ H', axOp E noR T H o = some (v, H') ∧ Has H' L) (ks : List Nat) (hn : ks.Nodup) (hL : LA = ks.filterMap fun k => L[k]?) (hw : wantedA ops T o = true) (hl : loudOp o = true) (hc : calleeOf o.op = none) (k : ∀ H', Has H' L → WD E ops (fun K => Has K LA) fin os Q ⟨put T o.dst v, H'⟩) : WD E ops (fun K => Has K LA) fin (o :: os) Q ⟨T, H⟩ := by
  obtain ⟨H', h1, h2⟩ := h
  exact WD.go1 hl hw hc h1 (fun _ => hL ▸ h2.pick ks hn) (k H' h2)

/-- The last loud operation. -/
theorem WD.last (v : AV) {L : Kn} (h : ∃ H', axOp E noR T H o = some (v, H') ∧ Has H' L) (hlast : (os.any loudOp || fin) = false) (hw : wantedA ops T o = true) (hl : loudOp o = true) (hc : calleeOf o.op = none) (k : ∀ H', Has H' L → WD E ops A fin os Q ⟨put T o.dst v, H'⟩) : WD E ops A fin (o :: os) Q ⟨T, H⟩ := by
  obtain ⟨H', h1, h2⟩ := h
  exact WD.go1 hl hw hc h1 (fun e => by rw [hlast] at e; simp at e) (k H' h2)

theorem ax_st {L : Kn} (hH : Has H L) (k : Nat) (off : Nat) (v : AV) (cs' : List AV) {t : TypeId} {a x : Operand} {id : Nat} {cs : List AV} (ho : o.op = .store t a x) (hk : L[k]? = some (id, .cells cs)) (h1 : v.cells.all oneCell = true) (ha : ev T a = some (.ptr id off)) (hx : ev T x = some v) (hs : sizeT E.P t = some v.cells.length)
    (hv : writeAt cs off v.cells = some cs') : ∃ H', axOp E noR T H o = some (.undef, H') ∧ Has H' (L.set k (id, .cells cs')) := by
  refine ⟨H.set id (.cells cs'), ?_, hH.put hk _⟩
  unfold axOp
  rw [ho]
  simp only [ha, hx, storeA, hH.get _ _ _ hk, hs, h1, decide_true, Bool.and_self, if_true, hv]

end

theorem W.rl {E : Env} {Q : Ex → St → Prop} {T : List AV} {H : Heap} {id : Nat} {ops : Array Oper} (fin : Bool) {L : Kn} (hH : Has H L) (ks : List Nat) (hn : ks.Nodup) (LA : Kn) (hL : LA = ks.filterMap fun k => L[k]?) (hst : lstat fin ops.toList = true) (h : WD E ops.toList (fun K => Has K LA) fin ops.toList (fun s' => Q .normal s') ⟨T, H⟩) : W E (.region id ops true) Q ⟨T, H⟩ :=
  W.regionl _ fin hst (hL ▸ hH.pick ks hn) h

theorem bneF {a b : Int} (h : a = b) : (a != b) = false := by simp [h]
theorem viface {H : Heap} {n : Nat} {t : TypeId} {x y : AV} {ids : List Nat} (h : view H n x = some (y, ids)) : view H (n + 1) (.iface t x) = some (.iface t y, ids) := by
  show (match view H n x with | some (y, is) => some (AV.iface t y, is) | none => none) = _
  rw [h]
theorem vfunc {H : Heap} {n : Nat} {f : FuncId} {a a' b b' : List AV} {is js : List Nat} (h : viewL (view H n) a = some (a', is)) (k : viewL (view H n) b = some (b', js)) : view H (n + 1) (.func (.func f) a b) = some (.func (.func f) a' b', is ++ js) := by
  show (match viewL (view H n) a, viewL (view H n) b with | some (xs, is), some (ys, js) => some (AV.func (.func f) xs ys, is ++ js) | _, _ => none) = _
  rw [h, k]

/-! One check of the kernel for each. -/

section
variable {E : Env} {Sp : SpT} {ops os : List Oper} {o : Oper} {Q : St → Prop} {T : List AV} {H : Heap} {A : Heap → Prop} {fin : Bool}

theorem pr2 {α β : Type} {a a' : α} {b b' : β} (h : (a, b) = (a', b')) : a = a' ∧ b = b' := by simpa using h
theorem pr3 {α β γ : Type} {a a' : α} {b b' : β} {c c' : γ} (h : (a, b, c) = (a', b', c')) : a = a' ∧ b = b' ∧ c = c' := by simpa using h
theorem pr4 {α β γ δ : Type} {a a' : α} {b b' : β} {c c' : γ} {d d' : δ} (h : (a, b, c, d) = (a', b', c', d')) : a = a' ∧ b = b' ∧ c = c' ∧ d = d' := by simpa using h
theorem pr5 {α β γ δ ε : Type} {a a' : α} {b b' : β} {c c' : γ} {d d' : δ} {e e' : ε} (h : (a, b, c, d, e) = (a', b', c', d', e')) : a = a' ∧ b = b' ∧ c = c' ∧ d = d' ∧ e = e' := by simpa using h

theorem o_v2 (v0 v : AV) (e : v0 = v) (h : (axOp E noR T H o, wantedA ops T o, calleeOf o.op) = (some (v0, H), true, none)) (k : WOps E ops os Q ⟨put T o.dst v, H⟩) : WOps E ops (o :: os) Q ⟨T, H⟩ := WOps.go1 (pr3 h).2.1 (pr3 h).2.2 (e ▸ (pr3 h).1) k
theorem o_vk (v : AV) {X : Option AV} (e : X = some v) (h : (axOp E noR T H o, wantedA ops T o, calleeOf o.op) = (keep H X, true, none)) (k : WOps E ops os Q ⟨put T o.dst v, H⟩) : WOps E ops (o :: os) Q ⟨T, H⟩ := WOps.go1 (pr3 h).2.1 (pr3 h).2.2 (by rw [(pr3 h).1, e]; rfl) k
theorem o_vb (v : AV) {X : Option (AV × Heap)} (e : X = some (v, H)) (h : (axOp E noR T H o, wantedA ops T o, calleeOf o.op) = (X, true, none)) (k : WOps E ops os Q ⟨put T o.dst v, H⟩) : WOps E ops (o :: os) Q ⟨T, H⟩ := WOps.go1 (pr3 h).2.1 (pr3 h).2.2 (by rw [(pr3 h).1, e]) k
theorem o_gen (v : AV) {L : Kn} {X : Option (AV × Heap)} (e : ∃ H', X = some (v, H') ∧ Has H' L) (h : (axOp E noR T H o, wantedA ops T o, calleeOf o.op) = (X, true, none)) (k : ∀ H', Has H' L → WOps E ops os Q ⟨put T o.dst v, H'⟩) : WOps E ops (o :: os) Q ⟨T, H⟩ := by
  obtain ⟨H', h1, h2⟩ := e
  exact WOps.go1 (pr3 h).2.1 (pr3 h).2.2 ((pr3 h).1.trans h1) (k H' h2)
theorem o_ld {L : Kn} (hH : Has H L) (k : Nat) (off : Nat) (v : AV) {t : TypeId} {a : Operand} {id : Nat} {cs : List AV} (ho : o.op = .load t a) (hk : L[k]? = some (id, .cells cs)) (h : (ev T a, readAt E.P t cs off, wantedA ops T o) = (some (.ptr id off), some v, true))
    (next : WOps E ops os Q ⟨put T o.dst v, H⟩) : WOps E ops (o :: os) Q ⟨T, H⟩ := WOps.ld hH k off v ho hk (pr3 h).1 (pr3 h).2.1 (pr3 h).2.2 next
theorem o_st {L : Kn} (hH : Has H L) (k : Nat) (off : Nat) (v : AV) (cs' : List AV) {t : TypeId} {a x : Operand} {id : Nat} {cs : List AV} (ho : o.op = .store t a x) (hk : L[k]? = some (id, .cells cs)) (h1 : v.cells.all oneCell = true)
    (h : (ev T a, ev T x, sizeT E.P t, writeAt cs off v.cells, wantedA ops T o) = (some (.ptr id off), some v, some v.cells.length, some cs', true)) (next : ∀ H', Has H' (L.set k (id, .cells cs')) → WOps E ops os Q ⟨put T o.dst .undef, H'⟩) : WOps E ops (o :: os) Q ⟨T, H⟩ :=
  WOps.st hH k off v cs' ho hk h1 (pr5 h).1 (pr5 h).2.1 (pr5 h).2.2.1 (pr5 h).2.2.2.1 (pr5 h).2.2.2.2 next
theorem o_stc {L : Kn} (hH : Has H L) (k : Nat) (off : Nat) (v : AV) (vs : List AV) (hvs : v.cells = vs) (cs' : List AV) {t : TypeId} {a x : Operand} {id : Nat} {cs : List AV} (ho : o.op = .store t a x) (hk : L[k]? = some (id, .cells cs)) (h1 : vs.all oneCell = true)
    (h : (ev T a, ev T x, sizeT E.P t, writeAt cs off vs, wantedA ops T o) = (some (.ptr id off), some v, some vs.length, some cs', true)) (next : ∀ H', Has H' (L.set k (id, .cells cs')) → WOps E ops os Q ⟨put T o.dst .undef, H'⟩) : WOps E ops (o :: os) Q ⟨T, H⟩ :=
  WOps.stc hH k off v vs hvs cs' ho hk h1 (pr5 h).1 (pr5 h).2.1 (pr5 h).2.2.1 (pr5 h).2.2.2.1 (pr5 h).2.2.2.2 next
theorem o_al {L : Kn} (hH : Has H L) (z : AV) {t : TypeId} (ho : o.op = .alloc t) (h : (zeroT E.P t, z.cells.all oneCell, wantedA ops T o) = (some z, true, true))
    (next : ∀ id H', Has H' ((id, .cells z.cells) :: L) → WOps E ops os Q ⟨put T o.dst (.ptr id 0), H'⟩) : WOps E ops (o :: os) Q ⟨T, H⟩ := WOps.al hH z ho (pr3 h).1 (pr3 h).2.1 (pr3 h).2.2 next
theorem o_bx {L : Kn} (hH : Has H L) (v : AV) (cs : List AV) (hv : v.cells = cs) (h1 : cs.all oneCell = true) {t : TypeId} {x : Operand} (ho : o.op = .box t x) (h : (ev T x, wantedA ops T o) = (some v, true))
    (next : ∀ id H', Has H' ((id, .cells cs) :: L) → WOps E ops os Q ⟨put T o.dst (.ptr id 0), H'⟩) : WOps E ops (o :: os) Q ⟨T, H⟩ := WOps.bxc hH v cs hv h1 ho (pr2 h).1 (pr2 h).2 next
theorem o_bs {L : Kn} (hH : Has H L) (cs : List AV) {t e : TypeId} {len s : Nat} {z : AV} {parts : Array (Nat × Operand)} {ps : List (Nat × AV)} {qs : List (Nat × List AV)} (hce : CE ps qs) (hc : cs.all oneCell = true) (ho : o.op = .buildSlice t len parts) (hu : E.P.underlying t = some (.slice e)) (hs : sizeT E.P e = some s) (hz : zeroT E.P e = some z)
    (h : ((decide (len * s ≤ 2 ^ 24) && (decide (z.cells.length = s) && decide (0 < s))), evParts T parts.toList, fillC (fun i => some (i * s, s)) (copies len z.cells) qs, wantedA ops T o) = (true, some ps, some cs, true))
    (next : ∀ id H', Has H' ((id, .cells cs) :: L) → WOps E ops os Q ⟨put T o.dst (.sl id 0 len s (some len)), H'⟩) : WOps E ops (o :: os) Q ⟨T, H⟩ := WOps.bsc hH cs hce hc ho hu hs hz (pr4 h).1 (pr4 h).2.1 (pr4 h).2.2.1 (pr4 h).2.2.2 next
theorem o_bd (cs : List AV) {t : TypeId} {z : AV} {pl : List (Nat × Nat)} {parts : Array (Nat × Operand)} {ps : List (Nat × AV)} {qs : List (Nat × List AV)} (hce : CE ps qs) (ho : o.op = .build t parts) (hz : zeroT E.P t = some z) (hpl : structPlaces E.P t = some pl)
    (h : (evParts T parts.toList, fillC (fun i => pl[i]?) z.cells qs, wantedA ops T o) = (some ps, some cs, true))
    (next : WOps E ops os Q ⟨put T o.dst (.agg cs), H⟩) : WOps E ops (o :: os) Q ⟨T, H⟩ := WOps.bd cs hce ho hz hpl (pr3 h).1 (pr3 h).2.1 (pr3 h).2.2 next
theorem o_call {f : Operand} {args : Array Operand} {g : FuncId} {ys xs : List AV} (hv : viewL (view H depthA) ys = some (xs, [])) (hcon : Con g xs (Sp g xs)) (ho : calleeOf o.op = some (f, args)) (h : (evs T args.toList, ev T f, inl.contains g, wantedA ops T o) = (some ys, some (.func (.func g) [] []), false, true))
    (next : ∀ r, (ES Sp).O g xs = some r → Sp g xs r → WOps (ES Sp) ops os Q ⟨put T o.dst r, H⟩) : WOps (ES Sp) ops (o :: os) Q ⟨T, H⟩ := WOps.call0 hv hcon ho (pr4 h).1 (pr4 h).2.1 (pr4 h).2.2.1 (pr4 h).2.2.2 next
theorem o_callk {L : Kn} (hH : Has H L) (ds ks : List Nat) (hn : (ds ++ ks).Nodup) {f : Operand} {args : Array Operand} {g : FuncId} {ys xs : List AV} {ids : List Nat} (hv : viewL (view H depthA) ys = some (xs, ids)) (hd : ids = (ds.filterMap fun k => L[k]?).map (·.1)) (hcon : Con g xs (Sp g xs)) (ho : calleeOf o.op = some (f, args))
    (h : (evs T args.toList, ev T f, inl.contains g, wantedA ops T o) = (some ys, some (.func (.func g) [] []), false, true)) (next : ∀ r, (ES Sp).O g xs = some r → Sp g xs r → ∀ H', Has H' (ks.filterMap fun k => L[k]?) → WOps (ES Sp) ops os Q ⟨put T o.dst r, H'⟩) : WOps (ES Sp) ops (o :: os) Q ⟨T, H⟩ :=
  WOps.callk hH ds ks hn hv hd hcon ho (pr4 h).1 (pr4 h).2.1 (pr4 h).2.2.1 (pr4 h).2.2.2 next

theorem d_v2 (v0 v : AV) (e : v0 = v) (h : (fun K => (axOp E noR T K o, wantedA ops T o, loudOp o, calleeOf o.op)) = fun K => (some (v0, K), true, false, none)) (k : WD E ops A fin os Q ⟨put T o.dst v, H⟩) : WD E ops A fin (o :: os) Q ⟨T, H⟩ :=
  WD.v2 v0 v e (fun K => (pr4 (congrFun h K)).1) (pr4 (congrFun h [])).2.1 (pr4 (congrFun h [])).2.2.1 (pr4 (congrFun h [])).2.2.2 k
theorem d_vk (v : AV) {X : Option AV} (e : X = some v) (h : (fun K => (axOp E noR T K o, wantedA ops T o, loudOp o, calleeOf o.op)) = fun K => (keep K X, true, false, none)) (k : WD E ops A fin os Q ⟨put T o.dst v, H⟩) : WD E ops A fin (o :: os) Q ⟨T, H⟩ :=
  WD.vk v e (fun K => (pr4 (congrFun h K)).1) (pr4 (congrFun h [])).2.1 (pr4 (congrFun h [])).2.2.1 (pr4 (congrFun h [])).2.2.2 k
theorem d_vl (v : AV) {Y : Heap → Option AV} (e : ∀ K, Y K = some v) (h : (fun K => (axOp E noR T K o, wantedA ops T o, loudOp o, calleeOf o.op)) = fun K => (keep K (Y K), true, false, none)) (k : WD E ops A fin os Q ⟨put T o.dst v, H⟩) : WD E ops A fin (o :: os) Q ⟨T, H⟩ :=
  WD.quiet1 (pr4 (congrFun h [])).2.2.1 (pr4 (congrFun h [])).2.1 (pr4 (congrFun h [])).2.2.2 (fun K _ => by rw [(pr4 (congrFun h K)).1, e]; rfl) k
theorem d_vb (v : AV) {X : Heap → Option (AV × Heap)} (e : ∀ K, X K = some (v, K)) (h : (fun K => (axOp E noR T K o, wantedA ops T o, loudOp o, calleeOf o.op)) = fun K => (X K, true, false, none)) (k : WD E ops A fin os Q ⟨put T o.dst v, H⟩) : WD E ops A fin (o :: os) Q ⟨T, H⟩ :=
  WD.vb v e (fun K => (pr4 (congrFun h K)).1) (pr4 (congrFun h [])).2.1 (pr4 (congrFun h [])).2.2.1 (pr4 (congrFun h [])).2.2.2 k
theorem d_ld {L LA : Kn} (hH : Has H L) (ks : List Nat) (hn : ks.Nodup) (hL : LA = ks.filterMap fun k => L[k]?) (k : Nat) (off : Nat) (v : AV) {t : TypeId} {a : Operand} {id : Nat} {cs : List AV} (ho : o.op = .load t a) (hk : LA[k]? = some (id, .cells cs)) (h : (ev T a, readAt E.P t cs off, wantedA ops T o) = (some (.ptr id off), some v, true))
    (next : WD E ops (fun K => Has K LA) fin os Q ⟨put T o.dst v, H⟩) : WD E ops (fun K => Has K LA) fin (o :: os) Q ⟨T, H⟩ := WD.ld hH ks hn hL k off v ho hk (pr3 h).1 (pr3 h).2.1 (pr3 h).2.2 next
theorem d_call {L LA : Kn} (hH : Has H L) (ks : List Nat) (hn : ks.Nodup) (hL : LA = ks.filterMap fun k => L[k]?) {f : Operand} {args : Array Operand} {g : FuncId} {ys xs : List AV} (hv : viewL (view H depthA) ys = some (xs, [])) (hcon : Con g xs (Sp g xs)) (ho : calleeOf o.op = some (f, args))
    (h : (evs T args.toList, ev T f, inl.contains g, loudOp o, wantedA ops T o) = (some ys, some (.func (.func g) [] []), false, true, true)) (next : ∀ r, (ES Sp).O g xs = some r → Sp g xs r → WD (ES Sp) ops (fun K => Has K LA) fin os Q ⟨put T o.dst r, H⟩) : WD (ES Sp) ops (fun K => Has K LA) fin (o :: os) Q ⟨T, H⟩ :=
  WD.call hv hcon (hL ▸ hH.pick ks hn) ho (pr5 h).1 (pr5 h).2.1 (pr5 h).2.2.1 (pr5 h).2.2.2.1 (pr5 h).2.2.2.2 next
theorem d_callk {L LA : Kn} (hH : Has H L) (ds ks : List Nat) (hn : (ds ++ ks).Nodup) (hL : LA = ks.filterMap fun k => L[k]?) {f : Operand} {args : Array Operand} {g : FuncId} {ys xs : List AV} {ids : List Nat} (hv : viewL (view H depthA) ys = some (xs, ids)) (hd : ids = (ds.filterMap fun k => L[k]?).map (·.1)) (hcon : Con g xs (Sp g xs)) (ho : calleeOf o.op = some (f, args))
    (h : (evs T args.toList, ev T f, inl.contains g, loudOp o, wantedA ops T o) = (some ys, some (.func (.func g) [] []), false, true, true)) (next : ∀ r, (ES Sp).O g xs = some r → Sp g xs r → ∀ H', Has H' LA → WD (ES Sp) ops (fun K => Has K LA) fin os Q ⟨put T o.dst r, H'⟩) : WD (ES Sp) ops (fun K => Has K LA) fin (o :: os) Q ⟨T, H⟩ := by
  have hk : Has (AX.kill H ids) LA := hL ▸ hH.kills ds ks hd hn
  exact WD.call hv hcon hk ho (pr5 h).1 (pr5 h).2.1 (pr5 h).2.2.1 (pr5 h).2.2.2.1 (pr5 h).2.2.2.2 fun r hO hr => next r hO hr _ hk
theorem d_bs {L LA : Kn} (hH : Has H L) (cs : List AV) {t e : TypeId} {len s : Nat} {z : AV} {parts : Array (Nat × Operand)} {ps : List (Nat × AV)} {qs : List (Nat × List AV)} (hce : CE ps qs) (hc : cs.all oneCell = true) (ks : List Nat) (hn : ks.Nodup) (hL : ∀ id, LA = ks.filterMap fun k => ((id, Blk.cells cs) :: L)[k]?) (ho : o.op = .buildSlice t len parts) (hu : E.P.underlying t = some (.slice e)) (hs : sizeT E.P e = some s) (hz : zeroT E.P e = some z)
    (h : ((decide (len * s ≤ 2 ^ 24) && (decide (z.cells.length = s) && decide (0 < s))), evParts T parts.toList, fillC (fun i => some (i * s, s)) (copies len z.cells) qs, wantedA ops T o) = (true, some ps, some cs, true))
    (next : ∀ id H', Has H' ((id, .cells cs) :: L) → WD E ops (fun K => Has K LA) fin os Q ⟨put T o.dst (.sl id 0 len s (some len)), H'⟩) : WD E ops (fun K => Has K LA) fin (o :: os) Q ⟨T, H⟩ := by
  obtain ⟨h1, hp, hf, hw⟩ := pr4 h
  simp only [Bool.and_eq_true, decide_eq_true_eq] at h1
  refine WD.go1 (v := .sl H.length 0 len s (some len)) (H' := H ++ [.cells cs]) (by unfold loudOp hoist; rw [ho]; rfl) hw (by rw [ho]; rfl) ?_ (fun _ => hL H.length ▸ (hH.new _).pick ks hn) (next _ _ (hH.new _))
  unfold axOp
  rw [ho]
  simp only [hp, hu, hs, hz, h1, decide_true, Bool.and_self, if_true, hce.fill, hf, newA, hc]
theorem d_bd (cs : List AV) {t : TypeId} {z : AV} {pl : List (Nat × Nat)} {parts : Array (Nat × Operand)} {ps : List (Nat × AV)} {qs : List (Nat × List AV)} (hce : CE ps qs) (ho : o.op = .build t parts) (hz : zeroT E.P t = some z) (hpl : structPlaces E.P t = some pl)
    (h : (evParts T parts.toList, fillC (fun i => pl[i]?) z.cells qs, wantedA ops T o) = (some ps, some cs, true))
    (next : WD E ops A fin os Q ⟨put T o.dst (.agg cs), H⟩) : WD E ops A fin (o :: os) Q ⟨T, H⟩ := by
  obtain ⟨hp, hf, hw⟩ := pr3 h
  refine WD.quiet1 (v := .agg cs) (by unfold loudOp; rw [ho]; rfl) hw (by rw [ho]; rfl) (fun K _ => ?_) next
  unfold structPlaces at hpl
  split at hpl <;> try (simp at hpl; done)
  rename_i fs hu
  unfold axOp
  rw [ho]
  simp only [hp, hz, hu, hpl, hce.fill, hf, keep, Option.map_some]
theorem d_gen (v : AV) {L LA : Kn} {X : Option (AV × Heap)} (e : ∃ H', X = some (v, H') ∧ Has H' L) (ks : List Nat) (hn : ks.Nodup) (hL : LA = ks.filterMap fun k => L[k]?) (h : (axOp E noR T H o, wantedA ops T o, loudOp o, calleeOf o.op) = (X, true, true, none)) (k : ∀ H', Has H' L → WD E ops (fun K => Has K LA) fin os Q ⟨put T o.dst v, H'⟩) : WD E ops (fun K => Has K LA) fin (o :: os) Q ⟨T, H⟩ := by
  obtain ⟨H', h1, h2⟩ := e
  exact WD.gen v ⟨H', (pr4 h).1.trans h1, h2⟩ ks hn hL (pr4 h).2.1 (pr4 h).2.2.1 (pr4 h).2.2.2 k
theorem d_last (v : AV) {L : Kn} {X : Option (AV × Heap)} (e : ∃ H', X = some (v, H') ∧ Has H' L) (h : (axOp E noR T H o, wantedA ops T o, loudOp o, calleeOf o.op, (os.any loudOp || fin)) = (X, true, true, none, false)) (k : ∀ H', Has H' L → WD E ops A fin os Q ⟨put T o.dst v, H'⟩) : WD E ops A fin (o :: os) Q ⟨T, H⟩ := by
  obtain ⟨H', h1, h2⟩ := e
  exact WD.last v ⟨H', (pr5 h).1.trans h1, h2⟩ (pr5 h).2.2.2.2 (pr5 h).2.1 (pr5 h).2.2.1 (pr5 h).2.2.2.1 k

/-- A store, in memory's own words. -/
theorem m_st {P : Program} {L : Kn} (hH : Has H L) (k : Nat) (off : Nat) (v : AV) (vs : List AV) (hvs : v.cells = vs) (cs' : List AV) {t : TypeId} {id : Nat} {cs : List AV} (hk : L[k]? = some (id, .cells cs)) (h1 : vs.all oneCell = true) (h : (sizeT P t, writeAt cs off vs) = (some vs.length, some cs')) :
    ∃ H', (match storeA P H t (.ptr id off) v with | some H' => some (AV.undef, H') | none => none) = some (.undef, H') ∧ Has H' (L.set k (id, .cells cs')) := by
  subst hvs
  refine ⟨H.set id (.cells cs'), ?_, hH.put hk _⟩
  simp only [storeA, hH.get _ _ _ hk, (pr2 h).1, h1, decide_true, Bool.and_self, if_true, (pr2 h).2]

/-- A slice that is made. -/
theorem m_mk {P : Program} {L : Kn} (hH : Has H L) (l c s b : Nat) (z : AV) (h1 : l ≤ c) (h2 : c * b ≤ roomA) (h : (z.cells.all oneCell, decide (z.cells.length = s), decide (0 < s), decide (0 < b)) = (true, true, true, true)) :
    ∃ H', (if l ≤ c && c * b ≤ roomA && z.cells.length = s && z.cells.all oneCell && 0 < s && 0 < b then some (AV.sl H.length 0 l s (some c), H ++ [.cells (copies c z.cells)]) else none) = some (.sl H.length 0 l s (some c), H') ∧ Has H' ((H.length, .cells (copies c z.cells)) :: L) := by
  obtain ⟨a1, a2, a3, a4⟩ := pr4 h
  simp only [decide_eq_true_eq] at a2 a3 a4
  refine ⟨_, ?_, hH.new _⟩
  simp only [h1, h2, a1, a2, a3, a4, decide_true, Bool.and_self, if_true]

end

end Go.AX
