/- AX, part 23: the program's tables; plain data; what is known of functions. -/
import Derived.Test.YtkkdpjmefjampaaGreatProg
import Derived.Test.YtkkdpjmefjampaaGreatA3
import Derived.IntWalk
set_option linter.unusedVariables false
set_option linter.unusedSimpArgs false
namespace Go.AX
open Go Go.RowKit Go.Proofs

theorem size198 : sizeT Tryz.prog 198 = some 1 := by kernel_rfl
theorem agg198 : isAggT Tryz.prog 198 = some false := by kernel_rfl
theorem bytes198 : bytesT Tryz.prog 198 = some 4 := by kernel_rfl
theorem zero198 : zeroT Tryz.prog 198 = some (.int .u32 0) := by kernel_rfl
theorem size29 : sizeT Tryz.prog 29 = some 4 := by kernel_rfl
theorem agg29 : isAggT Tryz.prog 29 = some true := by kernel_rfl
theorem size26 : sizeT Tryz.prog 26 = some 2 := by kernel_rfl
theorem agg26 : isAggT Tryz.prog 26 = some true := by kernel_rfl
theorem P24 : Tryz.prog.underlying 24 = some (TypeDesc.slice 198) := Tryz.underlying24
theorem P27 : Tryz.prog.underlying 27 = some (TypeDesc.slice 29) := Tryz.underlying27
theorem P239 : Tryz.prog.underlying 239 = some (TypeDesc.slice 27) := Tryz.underlying239

theorem prog_ok : ProgOK Tryz.prog where
  mixed := by kernel_rfl
  names := by
    have h : Tryz.prog.funcs.toList.all (fun fn => !(fn.name == "runtime.NumGoroutine")) = true := by kernel_rfl
    intro f fn hf
    have := List.all_eq_true.1 h fn (by rw [← Array.getElem?_toList] at hf; exact List.mem_of_getElem? hf)
    simpa using this

/-! ### Plain data -/

/-- A slice whose elements, of k cells each, are as said; at most L of them. -/
def SL (k : Nat) (P : List AV → Prop) (L : Nat) (a : AV) : Prop :=
  a = .nilsl ∨ ∃ cells len cap, a = .lst cells len cap ∧ cells.length = len * k ∧ len ≤ L ∧ ∀ i, i < len → P ((cells.drop (i * k)).take k)

/-- Words. -/
def Wd (c : List AV) : Prop := ∃ y, c = [.int .u32 y]

/-- A natural number of at most k digits. -/
def NV (k : Nat) (a : AV) : Prop := SL 1 Wd k a

theorem NV.mono {k k' : Nat} {a : AV} (h : NV k a) (hk : k ≤ k') : NV k' a := by
  rcases h with h | ⟨cells, len, cap, h1, h2, h3, h4⟩
  · exact .inl h
  · exact .inr ⟨cells, len, cap, h1, h2, by omega, h4⟩

theorem NV.get {cells : List AV} {len : Nat} (h1 : cells.length = len * 1) (h : ∀ i, i < len → Wd ((cells.drop (i * 1)).take 1)) {i : Nat} (hi : i < len) : ∃ y, cells[i]? = some (.int .u32 y) := by
  obtain ⟨y, hy⟩ := h i hi
  refine ⟨y, ?_⟩
  have := congrArg (fun l => l[0]?) hy
  simpa using this

/-! ### What is known -/

/-- A contract in the evaluator's words. -/
def Con (f : FuncId) (args : List AV) (P : AV → Prop) : Prop := (∃ fn c, Tryz.prog.funcs[f]? = some fn ∧ fn.body = some c) ∧ ∃ r, PureOK Tryz.prog f args r ∧ P r

/-- An integer of at most k digits. -/
def IV (k : Nat) (a : AV) : Prop := ∃ ng x, a = .agg [.bool ng, x] ∧ NV k x

/-- A value that names no live memory, in one cell. -/
def isFlat : AV → Bool
  | .bool _ | .int .. | .str _ | .nilptr | .nilsl | .nilfunc | .nilif | .lst .. | .cptr _ => true
  | _ => false

/-- The cells of a canonical polynomial of a level of at most l, with lists of at most L and integers of at most n digits. -/
def CV : Nat → Nat → Nat → List AV → Prop
  | 0, L, n, cs => ∃ ng a b, cs = [.int .i64 0, .bool ng, a, b] ∧ NV n a ∧ (b = .nilsl ∨ ∃ cap, b = .lst [] 0 cap)
  | l + 1, L, n, cs => CV l L n cs ∨ ∃ ng a cells len cap, cs = [.int .i64 ((l + 1 : Nat) : Int), .bool ng, a, .lst cells len cap] ∧ NV n a ∧ cells.length = len * 4 ∧ 1 ≤ len ∧ len ≤ L ∧ ∀ i, i < len → CV l L n ((cells.drop (i * 4)).take 4)

/-- A list of canonical polynomials below a level. -/
def PL (l L n : Nat) (a : AV) (len : Nat) : Prop := ∃ cells cap, a = .lst cells len cap ∧ cells.length = len * 4 ∧ len ≤ L ∧ ∀ i, i < len → CV l L n ((cells.drop (i * 4)).take 4)

/-- The cells of any polynomial: at most d levels deep, lists of at most L, integers of at most n digits. -/
def RV : Nat → Nat → Nat → List AV → Prop
  | 0, _, _, _ => False
  | d + 1, L, n, cs => ∃ lv ng a b, cs = [.int .i64 lv, .bool ng, a, b] ∧ NV n a ∧ (b = .nilsl ∨ ∃ cells len cap, b = .lst cells len cap ∧ cells.length = len * 4 ∧ len ≤ L ∧ ∀ i, i < len → RV d L n ((cells.drop (i * 4)).take 4))

/-- How long the lists of a normal form may be; how many digits its integers may have. -/
def nL : Nat → Nat → Nat
  | 0, _ => 1
  | d + 1, L => nL d L + 2 * L + 2
def nN : Nat → Nat → Nat → Nat
  | 0, _, n => n
  | d + 1, L, n => nN d L n + n + 2 + L * (4 * nL (d + 1) L + 3)

/-- What is said of the functions' results, by their numbers. -/
def Spec (f : FuncId) (args : List AV) (r : AV) : Prop :=
  match f, args with
  | 178, [a] => ∀ k, NV k a → NV k r
  | 207, [a] => ∀ k, NV k a → NV k r
  | 143, _ => ∃ b, r = .bool b
  | 116, _ => NV 2 r
  | 214, _ => ∃ x y, r = .tup [.int .u32 x, .int .u32 y]
  | 213, _ => ∃ x y, r = .tup [.int .u32 x, .int .u32 y]
  | 242, _ => ∃ x y, r = .tup [.int .u32 x, .int .u32 y]
  | 211, [a, b] => ∀ k, NV k a → NV k b → NV (k + 1) r
  | 212, [a, b] => ∀ k, NV k a → NV k b → ∃ x c, r = .tup [x, .bool c] ∧ NV k x
  | 231, _ => ∃ n, r = .int .i64 n
  | 148, [a, b] => ∀ k l, NV k a → NV l b → NV (k + l) r
  | 115, [_, x] => ∀ k, NV k x → IV k r
  | 149, [_, x] => ∀ k, NV k x → IV k r
  | 87, [a] => ∀ k, IV k a → IV k r
  | 58, _ => IV 2 r
  | 82, _ => ∃ n, r = .int .i64 n
  | 146, [a, b] => ∀ k, IV k a → IV k b → IV (k + 1) r
  | 147, [a, b] => ∀ k l, IV k a → IV l b → IV (k + l) r
  | 139, _ => ∃ b, r = .bool b
  | 151, [.int _ lv, a] => ∀ l L n len, lv = ((l + 1 : Nat) : Int) → PL l L n a len → ∃ cs, r = .agg cs ∧ CV (l + 1) L n cs
  | 153, [.agg p, .int _ lv] => ∀ l L n, lv = ((l + 1 : Nat) : Int) → CV (l + 1) L n p → 1 ≤ L → ∃ len, 1 ≤ len ∧ PL l L n r len
  | 152, [.lst [a, b] _ _] => ∀ l L n la lb, PL l L n a la → PL l L n b lb → 1 ≤ la → ∃ len, 1 ≤ len ∧ PL l L (n + 1) r len
  | 90, [.agg p, .agg q] => ∀ l L n, CV l L n p → CV l L n q → 1 ≤ L → ∃ cs, r = .agg cs ∧ CV l L (n + 1) cs
  | 150, [.agg p, c] => ∀ l L n m, CV l L n p → IV m c → ∃ cs, r = .agg cs ∧ CV l L (n + m) cs
  | 91, [.agg p, .agg q] => ∀ l L M n m, CV l L n p → CV l M m q → 1 ≤ L → 1 ≤ M → ∃ cs, r = .agg cs ∧ CV l (L + M) (n + m + l * L) cs
  | 89, [.agg p] => ∀ l L n, CV l L n p → ∃ cs, r = .agg cs ∧ CV l L (n + 2) cs
  | 27, _ => ∃ cs, r = .agg cs ∧ CV 4 2 2 cs
  | 88, [.agg p, .int _ be] => ∃ b, r = .bool b ∧ (b = true → ∀ l d L n, be = ((l + 1 : Nat) : Int) → RV d L n p → CV l L n p)
  | 40, [.agg p] => ∀ d L n, RV d L n p → ∃ cs, r = .agg cs ∧ CV 4 (nL d L) (nN d L n) cs
  | _, _ => True

/-- Functions that are walked in place. -/
def inl : List FuncId := [241]

open Classical in
/-- The program, and what is known of it. -/
noncomputable def ET : Env where
  P := Tryz.prog
  kind := fun f => if inl.contains f then 0 else 2
  O := fun f args => if h : Con f args (Spec f args) then some h.2.choose else none

theorem et_P : ET.P = Tryz.prog := rfl

theorem known_ok : KnownOK ET := by
  intro f args r h
  simp only [ET] at h
  split at h
  · rename_i hc
    simp only [Option.some.injEq] at h
    subst h
    exact ⟨hc.1, hc.2.choose_spec.1⟩
  · simp at h

theorem con_O {f : FuncId} {args : List AV} (h : Con f args (Spec f args)) : ∃ r, ET.O f args = some r ∧ Spec f args r := by
  refine ⟨h.2.choose, ?_, h.2.choose_spec.2⟩
  simp only [ET]
  rw [dif_pos h]

/-- A contract, out of a walk. -/
theorem con_of {f : FuncId} {fn : Func} {c : Code} {xs : List AV} {P : AV → Prop} (hf : Tryz.prog.funcs[f]? = some fn) (hb : fn.body = some c)
    (h : W ET c (fun ex s' => (ex = .normal ∨ ex = .ret) ∧ ∃ r, resultsA Tryz.prog fn s' = some r ∧ ∃ r' ids, view s'.H depthA r = some (r', ids) ∧ P r') ⟨xs ++ List.replicate (fn.ntmps - xs.length) .undef, []⟩) : Con f xs P := by
  obtain ⟨r, H', h1, r', ids, h2, h3⟩ := W.fn (E := ET) (K := fun r H' => ∃ r' ids, view H' depthA r = some (r', ids) ∧ P r') hf hb h
  exact ⟨⟨fn, c, hf, hb⟩, r', EvF.pure prog_ok known_ok h1 h2, h3⟩

/-- A call of a known function on data that need no view. -/
theorem call_known {f : FuncId} {args xs : List AV} {H : Heap} {ids : List Nat} {K : AV → Heap → Prop} (hk : inl.contains f = false) (hv : viewL (view H depthA) args = some (xs, ids)) (h : Con f xs (Spec f xs)) (hK : ∀ r, Spec f xs r → K r (kill H ids)) : CallW ET (.func (.func f) [] []) args H K := by
  obtain ⟨r, h1, h2⟩ := con_O h
  refine ⟨f, [], [], r, kill H ids, rfl, ?_, hK r h2⟩
  have : ([] : List AV) ++ args ++ [] = args := by simp
  rw [this]
  exact EvC.oracle (by simp [ET]; simpa using hk) hv h1

end Go.AX

/- AX, part 24: natural numbers. -/
set_option linter.unusedVariables false
set_option linter.unusedSimpArgs false
set_option maxRecDepth 4000
namespace Go.AX
open Go Go.RowKit Go.Proofs

theorem wrapN {n : Int} (h0 : -9223372036854775808 ≤ n) (h1 : n ≤ 9223372036854775807) : IntKind.i64.wrap n = n := IntWalk.i64_in n ⟨h0, h1⟩

theorem asNat_nat (k : IntKind) (n : Nat) : asNat (.int k n) = some n := by simp [asNat]

theorem view_nv {k : Nat} {a : AV} (h : NV k a) (H : Heap) : view H depthA a = some (a, []) := by
  rcases h with rfl | ⟨cells, len, cap, rfl, _⟩ <;> rfl

theorem idx24 {cells : List AV} {len : Nat} {cap : Option Nat} {i : Nat} (hi : i < len) (h2 : cells.length = len * 1) : indexAddrA Tryz.prog 24 (.lst cells len cap) i = some (.cptr (cells.drop i)) := by
  have : i * 1 ≤ cells.length := by omega
  simp [indexAddrA, size198, hi]
  omega

theorem load198 {cells : List AV} {i : Nat} {H : Heap} {v : AV} (h : cells[i]? = some v) : loadA Tryz.prog H 198 (.cptr (cells.drop i)) = some v := by
  simp [loadA, readAt, agg198, h]

theorem SL_take {k : Nat} {P : List AV → Prop} {cells : List AV} {len : Nat} (h2 : cells.length = len * k) (h4 : ∀ i, i < len → P ((cells.drop (i * k)).take k)) {n : Nat} (hn : n ≤ len) :
    (cells.take (n * k)).length = n * k ∧ ∀ i, i < n → P (((cells.take (n * k)).drop (i * k)).take k) := by
  have hle : n * k ≤ len * k := Nat.mul_le_mul_right k hn
  refine ⟨by rw [List.length_take, h2]; omega, fun i hi => ?_⟩
  have h1 : i * k + k ≤ n * k := by have := Nat.mul_le_mul_right k (show i + 1 ≤ n from hi); rw [Nat.add_mul] at this; omega
  rw [List.drop_take, List.take_take, Nat.min_eq_left (by omega)]
  exact h4 i (by omega)

theorem trim_con (a : AV) (k : Nat) (ha : NV k a) (hk : k ≤ 2 ^ 40) : Con 178 [a] (Spec 178 [a]) := by
  refine con_of Tryz.func178 rfl ?_
  show W ET _ _ ⟨[a] ++ List.replicate 22 .undef, []⟩
  generalize hT : [a] ++ List.replicate 22 AV.undef = T
  have hl : T.length = 23 := by subst hT; rfl
  have h0 : T.getD 0 .undef = a := by subst hT; rfl
  clear hT
  have main : ∃ n cells len cap, n ≤ len ∧ (a = .nilsl ∧ len = 0 ∨ a = .lst cells len cap ∧ cells.length = len * 1 ∧ len ≤ k ∧ ∀ i, i < len → Wd ((cells.drop (i * 1)).take 1)) ∧ lenA a = some len ∧ n = len := by
    rcases ha with rfl | ⟨cells, len, cap, rfl, h2, h3, h4⟩
    · exact ⟨0, [], 0, none, Nat.le_refl _, .inl ⟨rfl, rfl⟩, rfl, rfl⟩
    · exact ⟨len, cells, len, cap, Nat.le_refl _, .inr ⟨rfl, h2, h3, h4⟩, rfl, rfl⟩
  obtain ⟨_, cells, len, cap, _, hd, hlen, _⟩ := main
  have hb : ∀ H, builtinA Tryz.prog .len [24] H [a] = some (.int .i64 len, H) := by
    intro H
    rcases hd with ⟨rfl, rfl⟩ | ⟨rfl, _⟩ <;> simp [builtinA]
  have hlk : len ≤ 2 ^ 40 := by
    rcases hd with ⟨_, rfl⟩ | ⟨_, _, h, _⟩ <;> omega
  clear ha
  skip
  refine W.seqk fun K hK => W.region ?_
  refine WOps.cons rfl fun K_ hK_ => ?_
  simp (config := { decide := true }) only [WOne, calleeOf, axOp, ev, keep, okk_some, put, ofValue]
  refine hK_ _ ?_
  clear hK_
  simp only [WOps]; refine hK _ ?_
  clear hK
  refine W.seqk fun K hK => W.region ?_
  refine WOps.cons rfl fun K_ hK_ => ?_
  simp (config := { decide := true }) only [WOne, calleeOf, axOp, ev, keep, okk_some, put, getD_ne, h0]
  refine hK_ _ ?_
  clear hK_
  refine WOps.cons rfl fun K_ hK_ => ?_
  simp (config := { decide := true }) only [WOne, calleeOf, axOp, ev, evs, okk_some, put, getD_self, List.length_set, et_P, hl, hb]
  refine hK_ _ ?_
  clear hK_
  refine WOps.cons rfl fun K_ hK_ => ?_
  simp (config := { decide := true }) only [WOne, calleeOf, axOp, ev, keep, okk_some, put, getD_self, List.length_set, hl]
  refine hK_ _ ?_
  clear hK_
  simp only [WOps]; refine hK _ ?_
  clear hK
  refine W.seqk fun K hK => W.block (W.loop (fun n s => s.H = [] ∧ s.T.length = 23 ∧ s.T.getD 0 .undef = a ∧ s.T.getD 2 .undef = .nilsl ∧ s.T.getD 3 .undef = .int .i64 n ∧ n ≤ len) (n := len) ?_ ?_)
  · refine ⟨rfl, ?_, ?_, ?_, ?_, Nat.le_refl _⟩ <;> simp (config := { decide := true }) only [getD_self, getD_ne, List.length_set, hl, h0]
  · rintro n ⟨T', H'⟩ ⟨rfl, hl', h0', h2', h3', hn⟩
    simp only at hl' h0' h2' h3'
    have hout : ∀ T1 : List AV, T1.length = 23 → T1.getD 0 .undef = a → T1.getD 2 .undef = .nilsl → T1.getD 3 .undef = .int .i64 n → K ⟨T1, []⟩ := by
      intro T1 l1 g0 g2 g3
      refine hK _ ?_
      clear hK
      refine W.seqk fun Kr hKr => ?_
      refine W.seqk fun K hK => W.region ?_
      refine WOps.cons rfl fun K_ hK_ => ?_
      simp (config := { decide := true }) only [WOne, calleeOf, axOp, ev, keep, okk_some, put, g3]
      refine hK_ _ ?_
      clear hK_
      refine WOps.cons rfl fun K_ hK_ => ?_
      simp (config := { decide := true }) only [WOne, calleeOf, axOp, ev, keep, okk_some, put, if_true, ofValue, getD_self, binA, intOp, l1]
      refine hK_ _ ?_
      clear hK_
      simp only [WOps]; refine hK _ ?_
      clear hK
      by_cases hn0 : n = 0
      · subst hn0
        refine W.cond (b := true) (by simp (config := { decide := true }) only [ev, getD_self, List.length_set, beq_self_eq_true, l1, Int.natCast_zero]) (fun _ => ?_) (fun h => by simp at h)
        refine W.seqk fun K hK => W.region ?_
        refine WOps.cons rfl fun K_ hK_ => ?_
        simp (config := { decide := true }) only [WOne, calleeOf, axOp, ev, keep, okk_some, put, ofValue]
        refine hK_ _ ?_
        clear hK_
        simp only [WOps]
        refine hK _ (W.ret ?_)
        refine ⟨.inr rfl, .nilsl, ?_, .nilsl, [], rfl, fun _ _ => .inl rfl⟩
        simp (config := { decide := true }) only [getD_self, List.length_set, resultsA, Tryz.results178, resultsL, l1]
      · have hne : ((n : Int) == 0) = false := by simp; omega
        refine W.cond (b := false) (by simp (config := { decide := true }) only [ev, getD_self, List.length_set, l1, hne]) (fun h => by simp at h) (fun _ => ?_)
        refine W.skip (hKr _ ?_)
        clear hKr
        rcases hd with ⟨_, rfl⟩ | ⟨rfl, c2, c3, c4⟩
        · omega
        refine W.seqk fun K hK => W.region ?_
        have hs : sliceA Tryz.prog [] 24 (.lst cells len cap) none (some (.int .i64 n)) none = some (.lst (cells.take n) n cap) := by
          simp [sliceA, size198, bnds, natOr, asNat_nat, hn]
        refine WOps.cons rfl fun K_ hK_ => ?_
        simp (config := { decide := true }) only [WOne, calleeOf, axOp, ev, keep, okk_some, put, getD_ne, g0]
        refine hK_ _ ?_
        clear hK_
        refine WOps.cons rfl fun K_ hK_ => ?_
        simp (config := { decide := true }) only [WOne, calleeOf, axOp, ev, keep, okk_some, put, getD_ne, g3]
        refine hK_ _ ?_
        clear hK_
        refine WOps.cons rfl fun K_ hK_ => ?_
        simp (config := { decide := true }) only [WOne, calleeOf, axOp, ev, keep, okk_some, put, getD_self, getD_ne, List.length_set, et_P, l1, optEv, hs]
        refine hK_ _ ?_
        clear hK_
        refine WOps.cons rfl fun K_ hK_ => ?_
        simp (config := { decide := true }) only [WOne, calleeOf, axOp, ev, keep, okk_some, put, getD_self, List.length_set, l1]
        refine hK_ _ ?_
        clear hK_
        simp only [WOps]
        refine hK _ (W.ret ?_)
        refine ⟨.inr rfl, .lst (cells.take n) n cap, ?_, .lst (cells.take n) n cap, [], rfl, fun k' hk' => ?_⟩
        · simp (config := { decide := true }) only [getD_self, List.length_set, resultsA, Tryz.results178, resultsL, l1]
        · rcases hk' with hk' | ⟨_, _, _, e1, _, e3, _⟩
          · simp at hk'
          · simp only [AV.lst.injEq] at e1
            obtain ⟨_, rfl, _⟩ := e1
            obtain ⟨s1, s2⟩ := SL_take c2 c4 hn
            rw [Nat.mul_one] at s1
            refine .inr ⟨_, _, _, rfl, by rw [Nat.mul_one]; exact s1, by omega, ?_⟩
            rw [Nat.mul_one] at s2
            exact s2
    refine W.seqk fun K2 hK2 => ?_
    refine W.seqk fun K3 hK3 => W.region ?_
    cases n with
    | zero =>
      refine WOps.cons rfl fun K_ hK_ => ?_
      simp (config := { decide := true }) only [WOne, calleeOf, axOp, ev, keep, okk_some, put, h3', Int.natCast_zero]
      refine hK_ _ ?_
      clear hK_
      refine WOps.cons rfl fun K_ hK_ => ?_
      simp (config := { decide := true }) only [WOne, calleeOf, axOp, ev, keep, okk_some, put, if_true, ofValue, getD_self, binA, intOp, decide_false, hl']
      refine hK_ _ ?_
      clear hK_
      refine WOps.cons rfl fun K_ hK_ => ?_
      simp (config := { decide := true }) only [WOne, calleeOf, axOp, ev, keep, okk_some, put, getD_self, List.length_set, hl']
      refine hK_ _ ?_
      clear hK_
      refine WOps.no rfl rfl (by simp (config := { decide := true }) only [getD_self, List.length_set, Bool.not_true, hl']) ?_
      refine WOps.no rfl rfl (by simp (config := { decide := true }) only [put, getD_self, getD_ne, List.length_set, Bool.not_true, hl']) ?_
      refine WOps.no rfl rfl (by simp (config := { decide := true }) only [put, getD_self, getD_ne, List.length_set, Bool.not_true, hl']) ?_
      refine WOps.no rfl rfl (by simp (config := { decide := true }) only [put, getD_self, getD_ne, List.length_set, Bool.not_true, hl']) ?_
      refine WOps.no rfl rfl (by simp (config := { decide := true }) only [put, getD_self, getD_ne, List.length_set, Bool.not_true, hl']) ?_
      refine WOps.no rfl rfl (by simp (config := { decide := true }) only [put, getD_self, getD_ne, List.length_set, Bool.not_true, hl']) ?_
      refine WOps.cons rfl fun K_ hK_ => ?_
      simp (config := { decide := true }) only [WOne, calleeOf, axOp, ev, keep, okk_some, put, ofValue, getD_self, getD_ne, List.length_set, hl']
      refine hK_ _ ?_
      clear hK_
      simp only [WOps]
      refine hK3 _ ?_
      refine W.cond (b := false) (by simp (config := { decide := true }) only [ev, getD_self, List.length_set, hl']) (fun h => by simp at h) (fun _ => W.exit ?_)
      simp only [Th, outOf, if_true]
      refine hout _ ?_ ?_ ?_ ?_ <;> simp (config := { decide := true }) only [getD_ne, List.length_set, hl', h0', h2', h3']
    | succ n =>
      rcases hd with ⟨_, rfl⟩ | ⟨rfl, c2, c3, c4⟩
      · omega
      obtain ⟨y, hy⟩ := NV.get c2 c4 (i := n) (by omega)
      have hpos : ((((n + 1 : Nat) : Int)) > 0) = True := by simp
      have hw1 : IntKind.i64.wrap (((n + 1 : Nat) : Int) - 1) = (n : Int) := by rw [wrapN] <;> omega
      refine WOps.cons rfl fun K_ hK_ => ?_
      simp (config := { decide := true }) only [WOne, calleeOf, axOp, ev, keep, okk_some, put, h3']
      refine hK_ _ ?_
      clear hK_
      refine WOps.cons rfl fun K_ hK_ => ?_
      simp (config := { decide := true }) only [WOne, calleeOf, axOp, ev, keep, okk_some, put, if_true, ofValue, getD_self, binA, intOp, decide_true, hl', hpos]
      refine hK_ _ ?_
      clear hK_
      refine WOps.cons rfl fun K_ hK_ => ?_
      simp (config := { decide := true }) only [WOne, calleeOf, axOp, ev, keep, okk_some, put, getD_self, List.length_set, hl']
      refine hK_ _ ?_
      clear hK_
      refine WOps.yes rfl rfl (by simp (config := { decide := true }) only [getD_self, List.length_set, hl']) fun K_ hK_ => ?_
      simp (config := { decide := true }) only [WOne, calleeOf, axOp, ev, keep, okk_some, put, getD_ne, h0']
      refine hK_ _ ?_
      clear hK_
      refine WOps.yes rfl rfl (by simp (config := { decide := true }) only [getD_self, getD_ne, List.length_set, hl']) fun K_ hK_ => ?_
      simp (config := { decide := true }) only [WOne, calleeOf, axOp, ev, keep, okk_some, put, getD_ne, h3']
      refine hK_ _ ?_
      clear hK_
      refine WOps.yes rfl rfl (by simp (config := { decide := true }) only [getD_self, getD_ne, List.length_set, hl']) fun K_ hK_ => ?_
      simp (config := { decide := true }) only [WOne, calleeOf, axOp, ev, keep, okk_some, put, if_true, ofValue, getD_self, List.length_set, binA, intOp, hl', hw1]
      refine hK_ _ ?_
      clear hK_
      refine WOps.yes rfl rfl (by simp (config := { decide := true }) only [getD_self, getD_ne, List.length_set, hl']) fun K_ hK_ => ?_
      simp (config := { decide := true }) only [WOne, calleeOf, axOp, ev, keep, okk_some, put, getD_self, getD_ne, List.length_set, Option.bind_some, et_P, hl', asNat_nat, idx24 (show n < len by omega) c2]
      refine hK_ _ ?_
      clear hK_
      refine WOps.yes rfl rfl (by simp (config := { decide := true }) only [getD_self, getD_ne, List.length_set, hl']) fun K_ hK_ => ?_
      simp (config := { decide := true }) only [WOne, calleeOf, axOp, ev, keep, okk_some, put, getD_self, List.length_set, et_P, hl', load198 hy]
      refine hK_ _ ?_
      clear hK_
      by_cases hy0 : y = 0
      · subst hy0
        refine WOps.yes rfl rfl (by simp (config := { decide := true }) only [getD_self, getD_ne, List.length_set, hl']) fun K_ hK_ => ?_
        simp (config := { decide := true }) only [WOne, calleeOf, axOp, ev, keep, okk_some, put, if_true, ofValue, getD_self, List.length_set, binA, intOp, beq_self_eq_true, hl']
        refine hK_ _ ?_
        clear hK_
        refine WOps.cons rfl fun K_ hK_ => ?_
        simp (config := { decide := true }) only [WOne, calleeOf, axOp, ev, keep, okk_some, put, getD_self, getD_ne, List.length_set, hl']
        refine hK_ _ ?_
        clear hK_
        simp only [WOps]
        refine hK3 _ ?_
        refine W.cond (b := true) (by simp (config := { decide := true }) only [ev, getD_self, List.length_set, hl']) (fun _ => ?_) (fun h => by simp at h)
        refine W.skip (hK2 _ ?_)
        clear hK2 hK3
        refine W.block (W.region ?_)
        have hw2 : IntKind.i64.wrap (((n + 1 : Nat) : Int) - 1) = (n : Int) := hw1
        refine WOps.cons rfl fun K_ hK_ => ?_
        simp (config := { decide := true }) only [WOne, calleeOf, axOp, ev, keep, okk_some, put, getD_ne, h3']
        refine hK_ _ ?_
        clear hK_
        refine WOps.cons rfl fun K_ hK_ => ?_
        simp (config := { decide := true }) only [WOne, calleeOf, axOp, ev, keep, okk_some, put, if_true, ofValue, getD_self, List.length_set, binA, intOp, hl', hw2]
        refine hK_ _ ?_
        clear hK_
        refine WOps.cons rfl fun K_ hK_ => ?_
        simp (config := { decide := true }) only [WOne, calleeOf, axOp, ev, keep, okk_some, put, getD_self, List.length_set, hl']
        refine hK_ _ ?_
        clear hK_
        simp only [WOps, outOf, Th]
        refine ⟨n, Nat.lt_succ_self n, by trivial, ?_, ?_, ?_, ?_, by omega⟩ <;> simp (config := { decide := true }) only [getD_self, getD_ne, List.length_set, hl', h0', h2']
      · have hyb : (y == 0) = false := by simp [hy0]
        refine WOps.yes rfl rfl (by simp (config := { decide := true }) only [getD_self, getD_ne, List.length_set, hl']) fun K_ hK_ => ?_
        simp (config := { decide := true }) only [WOne, calleeOf, axOp, ev, keep, okk_some, put, if_true, ofValue, getD_self, List.length_set, binA, intOp, hl', hyb]
        refine hK_ _ ?_
        clear hK_
        refine WOps.cons rfl fun K_ hK_ => ?_
        simp (config := { decide := true }) only [WOne, calleeOf, axOp, ev, keep, okk_some, put, getD_self, getD_ne, List.length_set, hl']
        refine hK_ _ ?_
        clear hK_
        simp only [WOps]
        refine hK3 _ ?_
        refine W.cond (b := false) (by simp (config := { decide := true }) only [ev, getD_self, List.length_set, hl']) (fun h => by simp at h) (fun _ => W.exit ?_)
        simp only [Th, outOf, if_true]
        refine hout _ ?_ ?_ ?_ ?_ <;> simp (config := { decide := true }) only [getD_ne, List.length_set, hl', h0', h2', h3']
end Go.AX

/- AX, part 25: natural numbers: more. -/
set_option linter.unusedVariables false
set_option linter.unusedSimpArgs false
set_option maxRecDepth 4000
namespace Go.AX
open Go Go.RowKit Go.Proofs

theorem viewL_one {H : Heap} {a b : AV} {ids : List Nat} (h : view H depthA a = some (b, ids)) : viewL (view H depthA) [a] = some ([b], ids) := by simp [viewL, h]
theorem viewL_nv {H : Heap} {a : AV} {k : Nat} (h : NV k a) : viewL (view H depthA) [a] = some ([a], []) := viewL_one (view_nv h H)
theorem viewL_two {H : Heap} {a b c d : AV} {ids js : List Nat} (h : view H depthA a = some (b, ids)) (h' : view H depthA c = some (d, js)) : viewL (view H depthA) [a, c] = some ([b, d], ids ++ js) := by simp [viewL, h, h']

/-- A row of words, seen. -/
theorem viewL_words {H : Heap} {n : Nat} : ∀ (l : List AV), (∀ c ∈ l, ∃ y, c = .int .u32 y) → viewL (view H (n + 1)) l = some (l, [])
  | [], _ => rfl
  | c :: l, h => by
    obtain ⟨y, rfl⟩ := h c (by simp)
    have := viewL_words (H := H) (n := n) l fun c hc => h c (by simp [hc])
    show (match view H (n + 1) (.int .u32 y), viewL (view H (n + 1)) l with | some (x, is), some (xs, js) => some (x :: xs, is ++ js) | _, _ => none) = _
    rw [this]
    rfl

theorem view_words {H : Heap} {id off len : Nat} {cap : Option Nat} {cs : List AV} (hc : H[id]? = some (.cells cs)) (hle : off + len * 1 ≤ cs.length) (hw : ∀ c ∈ cs, ∃ y, c = .int .u32 y) :
    view H depthA (.sl id off len 1 cap) = some (.lst ((cs.drop off).take (len * 1)) len cap, [id]) := by
  have h := viewL_words (H := H) (n := 38) ((cs.drop off).take (len * 1)) fun c h => hw c (List.mem_of_mem_drop (List.mem_of_mem_take h))
  show (match H[id]? with | some (.cells cs) => if off + len * 1 ≤ cs.length then (match viewL (view H 39) ((cs.drop off).take (len * 1)) with | some (xs, is) => some (AV.lst xs len cap, id :: is) | none => none) else none | _ => none) = _
  rw [hc]
  simp only
  rw [if_pos hle, h]

theorem nv_words {cs : List AV} {len k : Nat} {cap : Option Nat} (h1 : cs.length = len * 1) (h2 : len ≤ k) (hw : ∀ c ∈ cs, ∃ y, c = .int .u32 y) : NV k (.lst cs len cap) := by
  refine .inr ⟨cs, len, cap, rfl, h1, h2, fun i hi => ?_⟩
  have hlt : i * 1 < cs.length := by omega
  obtain ⟨y, hy⟩ := hw cs[i * 1] (List.getElem_mem hlt)
  refine ⟨y, ?_⟩
  rw [List.drop_eq_getElem_cons hlt, hy]
  rfl

theorem nv_cells {cells : List AV} {len k : Nat} {cap : Option Nat} (h : NV k (.lst cells len cap)) : cells.length = len * 1 ∧ len ≤ k ∧ ∀ c ∈ cells, ∃ y, c = .int .u32 y := by
  rcases h with h | ⟨c1, l1, p1, e, h1, h2, h3⟩
  · simp at h
  · simp only [AV.lst.injEq] at e
    obtain ⟨rfl, rfl, rfl⟩ := e
    refine ⟨h1, h2, fun c hc => ?_⟩
    obtain ⟨i, hi⟩ := List.getElem?_of_mem hc
    have hlt := (List.getElem?_eq_some_iff.1 hi).1
    obtain ⟨y, hy⟩ := NV.get h1 h3 (i := i) (by omega)
    rw [hy] at hi
    simp at hi
    exact ⟨y, hi.symm⟩

/-- The length, and the words, of a natural number. -/
theorem nv_len {a : AV} {k : Nat} (h : NV k a) : ∃ len, len ≤ k ∧ ∀ H, builtinA Tryz.prog .len [24] H [a] = some (.int .i64 (len : Nat), H) ∧ ∀ i, i < len → ∃ p y, indexAddrA Tryz.prog 24 a i = some p ∧ ∀ H, loadA Tryz.prog H 198 p = some (.int .u32 y) := by
  rcases h with rfl | ⟨cells, len, cap, rfl, h2, h3, h4⟩
  · exact ⟨0, Nat.zero_le _, fun H => ⟨by simp [builtinA], fun i hi => by omega⟩⟩
  · refine ⟨len, h3, fun H => ⟨by simp [builtinA], fun i hi => ?_⟩⟩
    obtain ⟨y, hy⟩ := NV.get h2 h4 hi
    exact ⟨_, y, idx24 hi h2, fun H => load198 hy⟩

theorem isZero_con (a : AV) (k : Nat) (ha : NV k a) (hk : k ≤ 2 ^ 40) : Con 143 [a] (Spec 143 [a]) := by
  refine con_of Tryz.func143 rfl ?_
  show W ET _ _ ⟨[a] ++ List.replicate 6 .undef, []⟩
  generalize hT : [a] ++ List.replicate 6 AV.undef = T
  have hl : T.length = 7 := by subst hT; rfl
  have h0 : T.getD 0 .undef = a := by subst hT; rfl
  clear hT
  refine W.seqk fun K hK => W.region ?_
  refine WOps.cons rfl fun K_ hK_ => ?_
  simp (config := { decide := true }) only [WOne, calleeOf, axOp, ev, keep, okk_some, put, ofValue]
  refine hK_ _ ?_
  clear hK_
  simp only [WOps]
  refine hK _ ?_
  clear hK
  refine W.seqk fun K hK => W.region ?_
  refine WOps.cons rfl fun K_ hK_ => ?_
  simp (config := { decide := true }) only [WOne, calleeOf, axOp, ev, keep, okk_some, put, getD_ne, h0]
  refine hK_ _ ?_
  clear hK_
  refine WOps.cons rfl fun K_ hK_ => ?_
  simp (config := { decide := true }) only [WOne, calleeOf, ev, evs, put, getD_self, List.length_set, hl]
  refine call_known (by decide) (viewL_nv ha) (trim_con a k ha hk) fun r hr => ?_
  simp only [AX.kill]
  refine hK_ _ ?_
  clear hK_
  have hr' : NV k r := hr k ha
  obtain ⟨len, hlen, hb⟩ := nv_len hr'
  refine WOps.cons rfl fun K_ hK_ => ?_
  simp (config := { decide := true }) only [WOne, calleeOf, axOp, ev, evs, okk_some, put, getD_self, List.length_set, et_P, hl, fun H => (hb H).1]
  refine hK_ _ ?_
  clear hK_
  refine WOps.cons rfl fun K_ hK_ => ?_
  simp (config := { decide := true }) only [WOne, calleeOf, axOp, ev, keep, okk_some, put, if_true, ofValue, getD_self, List.length_set, binA, intOp, hl]
  refine hK_ _ ?_
  clear hK_
  refine WOps.cons rfl fun K_ hK_ => ?_
  simp (config := { decide := true }) only [WOne, calleeOf, axOp, ev, keep, okk_some, put, getD_self, List.length_set, hl]
  refine hK_ _ ?_
  clear hK_
  simp only [WOps]
  refine hK _ ?_
  clear hK
  refine W.ret ⟨.inr rfl, .bool ((len : Int) == 0), ?_, _, [], rfl, ⟨_, rfl⟩⟩
  simp (config := { decide := true }) only [getD_self, List.length_set, resultsA, Tryz.results143, resultsL, hl]

theorem oneCell_words {cs : List AV} (hw : ∀ c ∈ cs, ∃ y, c = .int .u32 y) : cs.all oneCell = true := by
  rw [List.all_eq_true]
  intro c hc
  obtain ⟨y, rfl⟩ := hw c hc
  rfl

theorem append_nil {k : Nat} {r : AV} (hr : NV k r) (hk : k ≤ 2 ^ 40) (H : Heap) : ∃ v H', builtinA Tryz.prog .append [24, 24] H [.nilsl, r] = some (v, H') ∧ ∃ v' ids, view H' depthA v = some (v', ids) ∧ NV k v' := by
  rcases hr with rfl | ⟨cells, len, cap, rfl, h2, h3, h4⟩
  · exact ⟨.nilsl, H, by simp [builtinA, appendA, size198, bytes198, lenA, cellsOf], .nilsl, [], rfl, .inl rfl⟩
  · obtain ⟨_, _, hw⟩ := nv_cells (k := k) (cells := cells) (len := len) (cap := cap) (.inr ⟨cells, len, cap, rfl, h2, h3, h4⟩)
    by_cases h0 : len = 0
    · subst h0
      exact ⟨.nilsl, H, by simp [builtinA, appendA, size198, bytes198, lenA, cellsOf], .nilsl, [], rfl, .inl rfl⟩
    · have hroom : len * 4 ≤ roomA := by unfold roomA; omega
      have hcs : cells.take (len * 1) = cells := List.take_of_length_le (by omega)
      have hle : len * 1 ≤ cells.length := by omega
      refine ⟨.sl H.length 0 len 1 none, H ++ [.cells cells], ?_, .lst cells len none, [H.length], ?_, nv_words h2 h3 hw⟩
      · simp only [builtinA, appendA, P24, size198, bytes198, lenA, cellsOf, if_pos hle, hcs, oneCell_words hw, h0, if_false, Bool.not_true, Bool.false_eq_true, zero198, Option.all_some, AV.cells, List.length_cons, List.length_nil, bne_self_eq_false, hroom, decide_true, Bool.true_and]
        simp
      · rw [view_words (cs := cells) (by simp) (by omega) hw]
        rw [List.drop_zero, hcs]

theorem normal_con (a : AV) (ka : Nat) (ha : NV ka a) (hka : ka ≤ 2 ^ 40) : Con 207 [a] (fun r => ∀ k, NV k a → NV k r) := by
  -- the least bound serves
  obtain ⟨k, hk0, hk, hmin⟩ : ∃ k, NV k a ∧ k ≤ 2 ^ 40 ∧ ∀ k', NV k' a → k ≤ k' := by
    rcases ha with rfl | ⟨cells, len, cap, rfl, h2, h3, h4⟩
    · exact ⟨0, .inl rfl, by omega, fun _ _ => Nat.zero_le _⟩
    · exact ⟨len, .inr ⟨cells, len, cap, rfl, h2, Nat.le_refl _, h4⟩, by omega, fun k' h => (nv_cells h).2.1⟩
  refine con_of Tryz.func207 rfl ?_
  show W ET _ _ ⟨[a] ++ List.replicate 5 .undef, []⟩
  generalize hT : [a] ++ List.replicate 5 AV.undef = T
  have hl : T.length = 6 := by subst hT; rfl
  have h0 : T.getD 0 .undef = a := by subst hT; rfl
  clear hT
  refine W.seqk fun K hK => W.region ?_
  refine WOps.cons rfl fun K_ hK_ => ?_
  simp (config := { decide := true }) only [WOne, calleeOf, axOp, ev, keep, okk_some, put, ofValue]
  refine hK_ _ ?_
  clear hK_
  simp only [WOps]
  refine hK _ ?_
  clear hK
  refine W.seqk fun K hK => W.region ?_
  refine WOps.cons rfl fun K_ hK_ => ?_
  simp (config := { decide := true }) only [WOne, calleeOf, axOp, ev, keep, okk_some, put, getD_ne, h0]
  refine hK_ _ ?_
  clear hK_
  refine WOps.cons rfl fun K_ hK_ => ?_
  simp (config := { decide := true }) only [WOne, calleeOf, ev, evs, put, getD_self, List.length_set, hl]
  refine call_known (by decide) (viewL_nv hk0) (trim_con a k hk0 hk) fun r hr => ?_
  simp only [AX.kill]
  refine hK_ _ ?_
  clear hK_
  have hr' : NV k r := hr k hk0
  obtain ⟨v, H', hv, v', ids, hv1, hv2⟩ := append_nil hr' hk []
  refine WOps.cons rfl fun K_ hK_ => ?_
  simp (config := { decide := true }) only [WOne, calleeOf, axOp, ev, evs, okk_some, put, ofValue, getD_self, List.length_set, et_P, hl, hv]
  refine hK_ _ ?_
  clear hK_
  refine WOps.cons rfl fun K_ hK_ => ?_
  simp (config := { decide := true }) only [WOne, calleeOf, axOp, ev, keep, okk_some, put, getD_self, List.length_set, hl]
  refine hK_ _ ?_
  clear hK_
  simp only [WOps]
  refine hK _ ?_
  clear hK
  refine W.ret ⟨.inr rfl, v, ?_, v', ids, hv1, fun k' hk' => hv2.mono (hmin k' hk')⟩
  simp (config := { decide := true }) only [getD_self, List.length_set, resultsA, Tryz.results207, resultsL, hl]

theorem add32_con (x y c : Int) : Con 214 [.int .u32 x, .int .u32 y, .int .u32 c] (Spec 214 [.int .u32 x, .int .u32 y, .int .u32 c]) := by
  refine con_of Tryz.func214 rfl ?_
  show W ET _ _ ⟨[.int .u32 x, .int .u32 y, .int .u32 c] ++ List.replicate 19 .undef, []⟩
  generalize hT : [.int .u32 x, .int .u32 y, .int .u32 c] ++ List.replicate 19 AV.undef = T
  have hl : T.length = 22 := by subst hT; rfl
  have h0 : T.getD 0 .undef = .int .u32 x := by subst hT; rfl
  have h1 : T.getD 1 .undef = .int .u32 y := by subst hT; rfl
  have h2 : T.getD 2 .undef = .int .u32 c := by subst hT; rfl
  clear hT
  have c1 : ∀ n, convA Tryz.prog 198 161 (.int .u32 n) = some (.int .u64 (IntKind.u64.wrap n)) := fun n => by simp [convA, Tryz.underlying198, Tryz.underlying161]
  have c2 : ∀ n, convA Tryz.prog 161 198 (.int .u64 n) = some (.int .u32 (IntKind.u32.wrap n)) := fun n => by simp [convA, Tryz.underlying198, Tryz.underlying161]
  have c3 : ∀ n, ∃ m, shiftOp .shr .u64 n 32 = some (.int .u64 m) := fun n => ⟨n.fdiv (2 ^ min 32 IntKind.u64.bits), by simp [shiftOp]⟩
  refine W.seqk fun K hK => W.region ?_
  refine WOps.cons rfl fun K_ hK_ => ?_
  simp (config := { decide := true }) only [WOne, calleeOf, axOp, ev, keep, okk_some, put, ofValue]
  refine hK_ _ ?_
  clear hK_
  refine WOps.cons rfl fun K_ hK_ => ?_
  simp (config := { decide := true }) only [WOne, calleeOf, axOp, ev, keep, okk_some, put, ofValue]
  refine hK_ _ ?_
  clear hK_
  simp only [WOps]
  refine hK _ ?_
  clear hK
  refine W.seqk fun K hK => W.region ?_
  refine WOps.cons rfl fun K_ hK_ => ?_
  simp (config := { decide := true }) only [WOne, calleeOf, axOp, ev, keep, okk_some, put, getD_ne, h0]
  refine hK_ _ ?_
  clear hK_
  refine WOps.cons rfl fun K_ hK_ => ?_
  simp (config := { decide := true }) only [WOne, calleeOf, axOp, ev, keep, okk_some, put, getD_self, List.length_set, et_P, hl, c1]
  refine hK_ _ ?_
  clear hK_
  refine WOps.cons rfl fun K_ hK_ => ?_
  simp (config := { decide := true }) only [WOne, calleeOf, axOp, ev, keep, okk_some, put, getD_ne, h1]
  refine hK_ _ ?_
  clear hK_
  refine WOps.cons rfl fun K_ hK_ => ?_
  simp (config := { decide := true }) only [WOne, calleeOf, axOp, ev, keep, okk_some, put, getD_self, List.length_set, et_P, hl, c1]
  refine hK_ _ ?_
  clear hK_
  refine WOps.cons rfl fun K_ hK_ => ?_
  simp (config := { decide := true }) only [WOne, calleeOf, axOp, ev, keep, okk_some, put, if_true, getD_self, getD_ne, List.length_set, binA, intOp, hl]
  refine hK_ _ ?_
  clear hK_
  refine WOps.cons rfl fun K_ hK_ => ?_
  simp (config := { decide := true }) only [WOne, calleeOf, axOp, ev, keep, okk_some, put, getD_ne, h2]
  refine hK_ _ ?_
  clear hK_
  refine WOps.cons rfl fun K_ hK_ => ?_
  simp (config := { decide := true }) only [WOne, calleeOf, axOp, ev, keep, okk_some, put, getD_self, List.length_set, et_P, hl, c1]
  refine hK_ _ ?_
  clear hK_
  refine WOps.cons rfl fun K_ hK_ => ?_
  simp (config := { decide := true }) only [WOne, calleeOf, axOp, ev, keep, okk_some, put, if_true, getD_self, getD_ne, List.length_set, binA, intOp, hl]
  refine hK_ _ ?_
  clear hK_
  refine WOps.cons rfl fun K_ hK_ => ?_
  simp (config := { decide := true }) only [WOne, calleeOf, axOp, ev, keep, okk_some, put, getD_self, List.length_set, hl]
  refine hK_ _ ?_
  clear hK_
  simp only [WOps]
  refine hK _ ?_
  clear hK
  refine W.seqk fun K hK => W.region ?_
  refine WOps.cons rfl fun K_ hK_ => ?_
  simp (config := { decide := true }) only [WOne, calleeOf, axOp, ev, keep, okk_some, put, getD_self, List.length_set, hl]
  refine hK_ _ ?_
  clear hK_
  refine WOps.cons rfl fun K_ hK_ => ?_
  simp (config := { decide := true }) only [WOne, calleeOf, axOp, ev, keep, okk_some, put, getD_self, List.length_set, et_P, hl, c2]
  refine hK_ _ ?_
  clear hK_
  refine WOps.cons rfl fun K_ hK_ => ?_
  simp (config := { decide := true }) only [WOne, calleeOf, axOp, ev, keep, okk_some, put, getD_self, List.length_set, hl]
  refine hK_ _ ?_
  clear hK_
  simp only [WOps]
  refine hK _ ?_
  clear hK
  refine W.seqk fun K hK => W.region ?_
  refine WOps.cons rfl fun K_ hK_ => ?_
  simp (config := { decide := true }) only [WOne, calleeOf, axOp, ev, keep, okk_some, put, getD_self, getD_ne, List.length_set, hl]
  refine hK_ _ ?_
  clear hK_
  refine WOps.cons rfl fun K_ hK_ => ?_
  obtain ⟨m, hm⟩ := c3 (IntKind.u64.wrap (IntKind.u64.wrap (IntKind.u64.wrap x + IntKind.u64.wrap y) + IntKind.u64.wrap c))
  simp (config := { decide := true }) only [WOne, calleeOf, axOp, ev, keep, okk_some, put, ofValue, getD_self, List.length_set, binA, hl, hm]
  refine hK_ _ ?_
  clear hK_
  refine WOps.cons rfl fun K_ hK_ => ?_
  simp (config := { decide := true }) only [WOne, calleeOf, axOp, ev, keep, okk_some, put, getD_self, List.length_set, et_P, hl, c2]
  refine hK_ _ ?_
  clear hK_
  refine WOps.cons rfl fun K_ hK_ => ?_
  simp (config := { decide := true }) only [WOne, calleeOf, axOp, ev, keep, okk_some, put, getD_self, List.length_set, hl]
  refine hK_ _ ?_
  clear hK_
  simp only [WOps]
  refine hK _ ?_
  clear hK
  refine W.ret ⟨.inr rfl, ?r, ?h, ?g⟩
  case h =>
    simp (config := { decide := true }) only [getD_self, getD_ne, List.length_set, resultsA, Tryz.results214, resultsL, hl]
    exact rfl
  case g => exact ⟨_, [], rfl, _, _, rfl⟩

theorem mul32_con (x y : Int) : Con 213 [.int .u32 x, .int .u32 y] (Spec 213 [.int .u32 x, .int .u32 y]) := by
  refine con_of Tryz.func213 rfl ?_
  show W ET _ _ ⟨[.int .u32 x, .int .u32 y] ++ List.replicate 15 .undef, []⟩
  generalize hT : [.int .u32 x, .int .u32 y] ++ List.replicate 15 AV.undef = T
  have hl : T.length = 17 := by subst hT; rfl
  have h0 : T.getD 0 .undef = .int .u32 x := by subst hT; rfl
  have h1 : T.getD 1 .undef = .int .u32 y := by subst hT; rfl
  clear hT
  have c1 : ∀ n, convA Tryz.prog 198 161 (.int .u32 n) = some (.int .u64 (IntKind.u64.wrap n)) := fun n => by simp [convA, Tryz.underlying198, Tryz.underlying161]
  have c2 : ∀ n, convA Tryz.prog 161 198 (.int .u64 n) = some (.int .u32 (IntKind.u32.wrap n)) := fun n => by simp [convA, Tryz.underlying198, Tryz.underlying161]
  have c3 : ∀ n, shiftOp .shr .u64 n 32 = some (.int .u64 (n.fdiv (2 ^ min 32 IntKind.u64.bits))) := fun n => by simp [shiftOp]
  refine W.seqk fun K hK => W.region ?_
  refine WOps.cons rfl fun K_ hK_ => ?_
  simp (config := { decide := true }) only [WOne, calleeOf, axOp, ev, keep, okk_some, put, ofValue]
  refine hK_ _ ?_
  clear hK_
  refine WOps.cons rfl fun K_ hK_ => ?_
  simp (config := { decide := true }) only [WOne, calleeOf, axOp, ev, keep, okk_some, put, ofValue]
  refine hK_ _ ?_
  clear hK_
  simp only [WOps]
  refine hK _ ?_
  clear hK
  refine W.seqk fun K hK => W.region ?_
  refine WOps.cons rfl fun K_ hK_ => ?_
  simp (config := { decide := true }) only [WOne, calleeOf, axOp, ev, keep, okk_some, put, getD_ne, h0]
  refine hK_ _ ?_
  clear hK_
  refine WOps.cons rfl fun K_ hK_ => ?_
  simp (config := { decide := true }) only [WOne, calleeOf, axOp, ev, keep, okk_some, put, getD_self, List.length_set, et_P, hl, c1]
  refine hK_ _ ?_
  clear hK_
  refine WOps.cons rfl fun K_ hK_ => ?_
  simp (config := { decide := true }) only [WOne, calleeOf, axOp, ev, keep, okk_some, put, getD_ne, h1]
  refine hK_ _ ?_
  clear hK_
  refine WOps.cons rfl fun K_ hK_ => ?_
  simp (config := { decide := true }) only [WOne, calleeOf, axOp, ev, keep, okk_some, put, getD_self, List.length_set, et_P, hl, c1]
  refine hK_ _ ?_
  clear hK_
  refine WOps.cons rfl fun K_ hK_ => ?_
  simp (config := { decide := true }) only [WOne, calleeOf, axOp, ev, keep, okk_some, put, if_true, getD_self, getD_ne, List.length_set, binA, intOp, hl]
  refine hK_ _ ?_
  clear hK_
  refine WOps.cons rfl fun K_ hK_ => ?_
  simp (config := { decide := true }) only [WOne, calleeOf, axOp, ev, keep, okk_some, put, getD_self, List.length_set, hl]
  refine hK_ _ ?_
  clear hK_
  simp only [WOps]
  refine hK _ ?_
  clear hK
  refine W.seqk fun K hK => W.region ?_
  refine WOps.cons rfl fun K_ hK_ => ?_
  simp (config := { decide := true }) only [WOne, calleeOf, axOp, ev, keep, okk_some, put, getD_self, List.length_set, hl]
  refine hK_ _ ?_
  clear hK_
  refine WOps.cons rfl fun K_ hK_ => ?_
  simp (config := { decide := true }) only [WOne, calleeOf, axOp, ev, keep, okk_some, put, ofValue, getD_self, List.length_set, binA, hl, c3]
  refine hK_ _ ?_
  clear hK_
  refine WOps.cons rfl fun K_ hK_ => ?_
  simp (config := { decide := true }) only [WOne, calleeOf, axOp, ev, keep, okk_some, put, getD_self, List.length_set, et_P, hl, c2]
  refine hK_ _ ?_
  clear hK_
  refine WOps.cons rfl fun K_ hK_ => ?_
  simp (config := { decide := true }) only [WOne, calleeOf, axOp, ev, keep, okk_some, put, getD_self, getD_ne, List.length_set, hl]
  refine hK_ _ ?_
  clear hK_
  refine WOps.cons rfl fun K_ hK_ => ?_
  simp (config := { decide := true }) only [WOne, calleeOf, axOp, ev, keep, okk_some, put, getD_self, List.length_set, et_P, hl, c2]
  refine hK_ _ ?_
  clear hK_
  refine WOps.cons rfl fun K_ hK_ => ?_
  simp (config := { decide := true }) only [WOne, calleeOf, axOp, ev, keep, okk_some, put, getD_self, getD_ne, List.length_set, hl]
  refine hK_ _ ?_
  clear hK_
  refine WOps.cons rfl fun K_ hK_ => ?_
  simp (config := { decide := true }) only [WOne, calleeOf, axOp, ev, keep, okk_some, put, getD_self, getD_ne, List.length_set, hl]
  refine hK_ _ ?_
  clear hK_
  simp only [WOps]
  refine hK _ ?_
  clear hK
  refine W.ret ⟨.inr rfl, ?r, ?h, ?g⟩
  case h =>
    simp (config := { decide := true }) only [getD_self, getD_ne, List.length_set, resultsA, Tryz.results213, resultsL, hl]
    exact rfl
  case g => exact ⟨_, [], rfl, _, _, rfl⟩

theorem sub32_con (x y c : Int) : Con 242 [.int .u32 x, .int .u32 y, .int .u32 c] (Spec 242 [.int .u32 x, .int .u32 y, .int .u32 c]) := by
  refine con_of Tryz.func242 rfl ?_
  show W ET _ _ ⟨[.int .u32 x, .int .u32 y, .int .u32 c] ++ List.replicate 22 .undef, []⟩
  generalize hT : [.int .u32 x, .int .u32 y, .int .u32 c] ++ List.replicate 22 AV.undef = T
  have hl : T.length = 25 := by subst hT; rfl
  have h0 : T.getD 0 .undef = .int .u32 x := by subst hT; rfl
  have h1 : T.getD 1 .undef = .int .u32 y := by subst hT; rfl
  have h2 : T.getD 2 .undef = .int .u32 c := by subst hT; rfl
  clear hT
  have c3 : ∀ n, shiftOp .shr .u32 n 31 = some (.int .u32 (n.fdiv (2 ^ min 31 IntKind.u32.bits))) := fun n => by simp [shiftOp]
  refine W.seqk fun K hK => W.region ?_
  refine WOps.cons rfl fun K_ hK_ => ?_
  simp (config := { decide := true }) only [WOne, calleeOf, axOp, ev, keep, okk_some, put, ofValue]
  refine hK_ _ ?_
  clear hK_
  refine WOps.cons rfl fun K_ hK_ => ?_
  simp (config := { decide := true }) only [WOne, calleeOf, axOp, ev, keep, okk_some, put, ofValue]
  refine hK_ _ ?_
  clear hK_
  simp only [WOps]
  refine hK _ ?_
  clear hK
  refine W.seqk fun K hK => W.region ?_
  refine WOps.cons rfl fun K_ hK_ => ?_
  simp (config := { decide := true }) only [WOne, calleeOf, axOp, ev, keep, okk_some, put, getD_ne, h0]
  refine hK_ _ ?_
  clear hK_
  refine WOps.cons rfl fun K_ hK_ => ?_
  simp (config := { decide := true }) only [WOne, calleeOf, axOp, ev, keep, okk_some, put, getD_ne, h1]
  refine hK_ _ ?_
  clear hK_
  refine WOps.cons rfl fun K_ hK_ => ?_
  simp (config := { decide := true }) only [WOne, calleeOf, axOp, ev, keep, okk_some, put, if_true, getD_self, getD_ne, List.length_set, binA, intOp, hl]
  refine hK_ _ ?_
  clear hK_
  refine WOps.cons rfl fun K_ hK_ => ?_
  simp (config := { decide := true }) only [WOne, calleeOf, axOp, ev, keep, okk_some, put, getD_ne, h2]
  refine hK_ _ ?_
  clear hK_
  refine WOps.cons rfl fun K_ hK_ => ?_
  simp (config := { decide := true }) only [WOne, calleeOf, axOp, ev, keep, okk_some, put, if_true, getD_self, getD_ne, List.length_set, binA, intOp, hl]
  refine hK_ _ ?_
  clear hK_
  refine WOps.cons rfl fun K_ hK_ => ?_
  simp (config := { decide := true }) only [WOne, calleeOf, axOp, ev, keep, okk_some, put, getD_self, List.length_set, hl]
  refine hK_ _ ?_
  clear hK_
  simp only [WOps]
  refine hK _ ?_
  clear hK
  refine W.seqk fun K hK => W.region ?_
  refine WOps.cons rfl fun K_ hK_ => ?_
  simp (config := { decide := true }) only [WOne, calleeOf, axOp, ev, keep, okk_some, put, getD_ne, h0]
  refine hK_ _ ?_
  clear hK_
  refine WOps.cons rfl fun K_ hK_ => ?_
  simp (config := { decide := true }) only [WOne, calleeOf, axOp, ev, keep, okk_some, put, getD_self, List.length_set, if_false, hl, unA]
  refine hK_ _ ?_
  clear hK_
  refine WOps.cons rfl fun K_ hK_ => ?_
  simp (config := { decide := true }) only [WOne, calleeOf, axOp, ev, keep, okk_some, put, getD_ne, h1]
  refine hK_ _ ?_
  clear hK_
  refine WOps.cons rfl fun K_ hK_ => ?_
  simp (config := { decide := true }) only [WOne, calleeOf, axOp, ev, keep, okk_some, put, if_true, getD_self, getD_ne, List.length_set, binA, intOp, hl]
  refine hK_ _ ?_
  clear hK_
  refine WOps.cons rfl fun K_ hK_ => ?_
  simp (config := { decide := true }) only [WOne, calleeOf, axOp, ev, keep, okk_some, put, getD_ne, h0]
  refine hK_ _ ?_
  clear hK_
  refine WOps.cons rfl fun K_ hK_ => ?_
  simp (config := { decide := true }) only [WOne, calleeOf, axOp, ev, keep, okk_some, put, getD_ne, h1]
  refine hK_ _ ?_
  clear hK_
  refine WOps.cons rfl fun K_ hK_ => ?_
  simp (config := { decide := true }) only [WOne, calleeOf, axOp, ev, keep, okk_some, put, if_true, getD_self, getD_ne, List.length_set, binA, intOp, hl]
  refine hK_ _ ?_
  clear hK_
  refine WOps.cons rfl fun K_ hK_ => ?_
  simp (config := { decide := true }) only [WOne, calleeOf, axOp, ev, keep, okk_some, put, getD_self, List.length_set, if_false, hl, unA]
  refine hK_ _ ?_
  clear hK_
  refine WOps.cons rfl fun K_ hK_ => ?_
  simp (config := { decide := true }) only [WOne, calleeOf, axOp, ev, keep, okk_some, put, getD_self, getD_ne, List.length_set, hl]
  refine hK_ _ ?_
  clear hK_
  refine WOps.cons rfl fun K_ hK_ => ?_
  simp (config := { decide := true }) only [WOne, calleeOf, axOp, ev, keep, okk_some, put, if_true, getD_self, getD_ne, List.length_set, binA, intOp, hl]
  refine hK_ _ ?_
  clear hK_
  refine WOps.cons rfl fun K_ hK_ => ?_
  simp (config := { decide := true }) only [WOne, calleeOf, axOp, ev, keep, okk_some, put, if_true, getD_self, getD_ne, List.length_set, binA, intOp, hl]
  refine hK_ _ ?_
  clear hK_
  refine WOps.cons rfl fun K_ hK_ => ?_
  simp (config := { decide := true }) only [WOne, calleeOf, axOp, ev, keep, okk_some, put, ofValue, getD_self, List.length_set, binA, hl, c3]
  refine hK_ _ ?_
  clear hK_
  refine WOps.cons rfl fun K_ hK_ => ?_
  simp (config := { decide := true }) only [WOne, calleeOf, axOp, ev, keep, okk_some, put, getD_self, List.length_set, hl]
  refine hK_ _ ?_
  clear hK_
  simp only [WOps]
  refine hK _ ?_
  clear hK
  refine W.ret ⟨.inr rfl, ?r, ?h, ?g⟩
  case h =>
    simp (config := { decide := true }) only [getD_self, getD_ne, List.length_set, resultsA, Tryz.results242, resultsL, hl]
    exact rfl
  case g => exact ⟨_, [], rfl, _, _, rfl⟩

theorem of_con (n : Int) : Con 116 [.int .u64 n] (Spec 116 [.int .u64 n]) := by
  refine con_of Tryz.func116 rfl ?_
  show W ET _ _ ⟨[.int .u64 n] ++ List.replicate 9 .undef, []⟩
  generalize hT : [.int .u64 n] ++ List.replicate 9 AV.undef = T
  have hl : T.length = 10 := by subst hT; rfl
  have h0 : T.getD 0 .undef = .int .u64 n := by subst hT; rfl
  clear hT
  have c2 : ∀ n, convA Tryz.prog 161 198 (.int .u64 n) = some (.int .u32 (IntKind.u32.wrap n)) := fun n => by simp [convA, Tryz.underlying198, Tryz.underlying161]
  have c3 : ∀ n, shiftOp .shr .u64 n 32 = some (.int .u64 (n.fdiv (2 ^ min 32 IntKind.u64.bits))) := fun n => by simp [shiftOp]
  refine W.seqk fun K hK => W.region ?_
  refine WOps.cons rfl fun K_ hK_ => ?_
  simp (config := { decide := true }) only [WOne, calleeOf, axOp, ev, keep, okk_some, put, ofValue]
  refine hK_ _ ?_
  clear hK_
  simp only [WOps]
  refine hK _ ?_
  clear hK
  refine W.seqk fun K hK => W.region ?_
  refine WOps.cons rfl fun K_ hK_ => ?_
  simp (config := { decide := true }) only [WOne, calleeOf, axOp, ev, keep, okk_some, put, getD_ne, h0]
  refine hK_ _ ?_
  clear hK_
  refine WOps.cons rfl fun K_ hK_ => ?_
  simp (config := { decide := true }) only [WOne, calleeOf, axOp, ev, keep, okk_some, put, getD_self, List.length_set, et_P, hl, c2]
  refine hK_ _ ?_
  clear hK_
  refine WOps.cons rfl fun K_ hK_ => ?_
  simp (config := { decide := true }) only [WOne, calleeOf, axOp, ev, keep, okk_some, put, getD_ne, h0]
  refine hK_ _ ?_
  clear hK_
  refine WOps.cons rfl fun K_ hK_ => ?_
  simp (config := { decide := true }) only [WOne, calleeOf, axOp, ev, keep, okk_some, put, ofValue, getD_self, List.length_set, binA, hl, c3]
  refine hK_ _ ?_
  clear hK_
  refine WOps.cons rfl fun K_ hK_ => ?_
  simp (config := { decide := true }) only [WOne, calleeOf, axOp, ev, keep, okk_some, put, getD_self, List.length_set, et_P, hl, c2]
  refine hK_ _ ?_
  clear hK_
  generalize IntKind.u32.wrap n = w1, IntKind.u32.wrap (n.fdiv (2 ^ min 32 IntKind.u64.bits)) = w2
  refine WOps.cons rfl fun K_ hK_ => ?_
  simp (config := { decide := true }) only [WOne, calleeOf, axOp, ev, okk_some, put, if_true, getD_self, getD_ne, List.length_set, P24, size198, et_P, hl, evParts, zero198, newA, fillA, copies, writeAt, AV.cells, List.cons_append, List.nil_append, List.append_nil, List.length_cons, List.length_nil, List.take_zero, List.take_succ_cons, List.drop_succ_cons, List.drop_zero, Nat.mul_one, Nat.zero_add, Nat.reduceAdd, Nat.reduceLeDiff, oneCell, List.all_cons, List.all_nil, Bool.and_self]
  refine hK_ _ ?_
  clear hK_
  have hw : NV 2 (.lst [.int .u32 w1, .int .u32 w2] 2 (some 2)) := nv_words rfl (Nat.le_refl _) (by simp)
  refine WOps.cons rfl fun K_ hK_ => ?_
  simp (config := { decide := true }) only [WOne, calleeOf, ev, evs, put, getD_self, List.length_set, hl]
  refine call_known (by decide) (viewL_one (b := .lst [.int .u32 w1, .int .u32 w2] 2 (some 2)) (ids := [0]) rfl) (trim_con _ 2 hw (by decide)) fun r hr => ?_
  simp only [AX.kill]
  refine hK_ _ ?_
  clear hK_
  have hr' : NV 2 r := hr 2 hw
  refine WOps.cons rfl fun K_ hK_ => ?_
  simp (config := { decide := true }) only [WOne, calleeOf, axOp, ev, keep, okk_some, put, getD_self, List.length_set, hl]
  refine hK_ _ ?_
  clear hK_
  simp only [WOps]
  refine hK _ ?_
  clear hK
  refine W.ret ⟨.inr rfl, r, ?_, r, [], view_nv hr' _, hr'⟩
  simp (config := { decide := true }) only [getD_self, List.length_set, resultsA, Tryz.results116, resultsL, hl]

end Go.AX

/- AX, part 26: the sum of natural numbers. -/
set_option linter.unusedVariables false
set_option linter.unusedSimpArgs false
set_option maxRecDepth 4000
namespace Go.AX
open Go Go.RowKit Go.Proofs

theorem call_inline {f : FuncId} {first ca args : List AV} {H : Heap} {K : AV → Heap → Prop} (hk : inl.contains f = true) (h : ∃ r H', EvF ET f (first ++ args ++ ca) H r H' ∧ K r H') : CallW ET (.func (.func f) first ca) args H K := by
  obtain ⟨r, H', h1, h2⟩ := h
  refine ⟨f, first, ca, r, H', rfl, EvC.inline (by simp only [ET]; rw [if_pos hk]) h1, h2⟩

theorem index_own {id off len sz i : Nat} {cap : Option Nat} (hi : i < len) : indexAddrA Tryz.prog 24 (.sl id off len sz cap) i = some (.ptr id (off + i)) := by
  simp [indexAddrA, size198, hi]

theorem store_own {H : Heap} {id off : Nat} {cs : List AV} (hc : H[id]? = some (.cells cs)) (ho : off < cs.length) (y : Int) (hw : ∀ c ∈ cs, ∃ y, c = .int .u32 y) :
    ∃ cs', storeA Tryz.prog H 198 (.ptr id off) (.int .u32 y) = some (H.set id (.cells cs')) ∧ cs'.length = cs.length ∧ ∀ c ∈ cs', ∃ y, c = .int .u32 y := by
  refine ⟨cs.take off ++ ([.int .u32 y] ++ cs.drop (off + 1)), ?_, ?_, ?_⟩
  · have : off + 1 ≤ cs.length := ho
    simp [storeA, hc, size198, AV.cells, oneCell, writeAt, this]
  · simp; omega
  · intro c hc
    simp only [List.mem_append, List.mem_singleton] at hc
    rcases hc with h | h | h
    · exact hw c (List.mem_of_mem_take h)
    · exact ⟨y, h⟩
    · exact hw c (List.mem_of_mem_drop h)

theorem load_own {H : Heap} {id off : Nat} {cs : List AV} (hc : H[id]? = some (.cells cs)) (ho : off < cs.length) (hw : ∀ c ∈ cs, ∃ y, c = .int .u32 y) : ∃ y, loadA Tryz.prog H 198 (.ptr id off) = some (.int .u32 y) := by
  obtain ⟨y, hy⟩ := hw cs[off] (List.getElem_mem ho)
  exact ⟨y, by simp [loadA, hc, readAt, agg198, ho, hy]⟩

/-- The closure that adds digits. -/
theorem digit_w (blk : Blk) (x y c : Int) : ∃ r H', EvF ET 241 ([] ++ [.int .u32 x, .int .u32 y] ++ [.ptr 1 0]) [blk, .cells [.int .u32 c]] r H' ∧ ∃ s c', r = .int .u32 s ∧ H' = [blk, .cells [.int .u32 c']] := by
  refine W.fn (E := ET) Tryz.func241 rfl ?_
  show W ET _ _ ⟨[.int .u32 x, .int .u32 y, .ptr 1 0] ++ List.replicate 14 .undef, _⟩
  generalize hT : [.int .u32 x, .int .u32 y, .ptr 1 0] ++ List.replicate 14 AV.undef = T
  have hl : T.length = 17 := by subst hT; rfl
  have h0 : T.getD 0 .undef = .int .u32 x := by subst hT; rfl
  have h1 : T.getD 1 .undef = .int .u32 y := by subst hT; rfl
  have h2 : T.getD 2 .undef = .ptr 1 0 := by subst hT; rfl
  clear hT
  have ld : loadA Tryz.prog [blk, .cells [.int .u32 c]] 198 (.ptr 1 0) = some (.int .u32 c) := by simp [loadA, readAt, agg198]
  have st : ∀ z, storeA Tryz.prog [blk, .cells [.int .u32 c]] 198 (.ptr 1 0) (.int .u32 z) = some [blk, .cells [.int .u32 z]] := fun z => by simp [storeA, size198, AV.cells, oneCell, writeAt]
  refine W.seqk fun K hK => W.region ?_
  refine WOps.cons rfl fun K_ hK_ => ?_
  simp (config := { decide := true }) only [WOne, calleeOf, axOp, ev, keep, okk_some, put, ofValue]
  refine hK_ _ ?_
  clear hK_
  simp only [WOps]
  refine hK _ ?_
  clear hK
  refine W.seqk fun K hK => W.region ?_
  refine WOps.cons rfl fun K_ hK_ => ?_
  simp (config := { decide := true }) only [WOne, calleeOf, axOp, ev, keep, okk_some, put, getD_ne, h0]
  refine hK_ _ ?_
  clear hK_
  refine WOps.cons rfl fun K_ hK_ => ?_
  simp (config := { decide := true }) only [WOne, calleeOf, axOp, ev, keep, okk_some, put, getD_ne, h1]
  refine hK_ _ ?_
  clear hK_
  refine WOps.cons rfl fun K_ hK_ => ?_
  simp (config := { decide := true }) only [WOne, calleeOf, axOp, ev, keep, okk_some, put, getD_ne, et_P, h2, ld]
  refine hK_ _ ?_
  clear hK_
  refine WOps.cons rfl fun K_ hK_ => ?_
  simp (config := { decide := true }) only [WOne, calleeOf, ev, evs, put, getD_self, getD_ne, List.length_set, hl]
  refine call_known (by decide) (viewL_words (n := 39) _ (by simp)) (add32_con x y c) fun r hr => ?_
  simp only [AX.kill]
  refine hK_ _ ?_
  clear hK_
  obtain ⟨s, c', rfl⟩ := hr
  refine WOps.cons rfl fun K_ hK_ => ?_
  simp (config := { decide := true }) only [WOne, calleeOf, axOp, ev, keep, okk_some, put, getD_self, List.length_set, hl]
  refine hK_ _ ?_
  clear hK_
  refine WOps.cons rfl fun K_ hK_ => ?_
  simp (config := { decide := true }) only [WOne, List.getElem?_cons_zero, calleeOf, axOp, ev, keep, okk_some, put, getD_self, List.length_set, hl]
  refine hK_ _ ?_
  clear hK_
  refine WOps.cons rfl fun K_ hK_ => ?_
  simp (config := { decide := true }) only [WOne, List.getElem?_cons_zero, List.getElem?_cons_succ, calleeOf, axOp, ev, keep, okk_some, put, getD_self, getD_ne, List.length_set, hl]
  refine hK_ _ ?_
  clear hK_
  refine WOps.cons rfl fun K_ hK_ => ?_
  simp (config := { decide := true }) only [WOne, calleeOf, axOp, ev, keep, okk_some, put, getD_self, getD_ne, List.length_set, hl]
  refine hK_ _ ?_
  clear hK_
  refine WOps.cons rfl fun K_ hK_ => ?_
  simp (config := { decide := true }) only [WOne, calleeOf, axOp, ev, keep, okk_some, put, getD_self, getD_ne, List.length_set, hl]
  refine hK_ _ ?_
  clear hK_
  simp only [WOps]
  refine hK _ ?_
  clear hK
  refine W.seqk fun K hK => W.region ?_
  refine WOps.cons rfl fun K_ hK_ => ?_
  simp (config := { decide := true }) only [WOne, calleeOf, axOp, ev, keep, okk_some, put, getD_self, List.length_set, hl]
  refine hK_ _ ?_
  clear hK_
  refine WOps.cons rfl fun K_ hK_ => ?_
  simp (config := { decide := true }) only [WOne, calleeOf, axOp, ev, okk_some, put, getD_self, getD_ne, List.length_set, et_P, hl, h2, st]
  refine hK_ _ ?_
  clear hK_
  simp only [WOps]
  refine hK _ ?_
  clear hK
  refine W.seqk fun K hK => W.region ?_
  refine WOps.cons rfl fun K_ hK_ => ?_
  simp (config := { decide := true }) only [WOne, calleeOf, axOp, ev, keep, okk_some, put, getD_self, getD_ne, List.length_set, hl]
  refine hK_ _ ?_
  clear hK_
  refine WOps.cons rfl fun K_ hK_ => ?_
  simp (config := { decide := true }) only [WOne, calleeOf, axOp, ev, keep, okk_some, put, getD_self, List.length_set, hl]
  refine hK_ _ ?_
  clear hK_
  simp only [WOps]
  refine hK _ ?_
  clear hK
  refine W.ret ⟨.inr rfl, .int .u32 s, ?_, s, c', rfl, rfl⟩
  simp (config := { decide := true }) only [getD_self, List.length_set, et_P, resultsA, Tryz.results241, resultsL, hl]

theorem make_own {n : Nat} (hn : n ≤ 2 ^ 41) (H : Heap) : ∃ cs, cs.length = n ∧ (∀ c ∈ cs, ∃ y, c = .int .u32 y) ∧
    (match asNat (.int .i64 (n : Nat)), asNat (.int .i64 (n : Nat)), sizeT Tryz.prog 198, bytesT Tryz.prog 198, zeroT Tryz.prog 198 with
      | some l, some c, some s, some b, some z =>
        if l ≤ c && c * b ≤ roomA && z.cells.length = s && z.cells.all oneCell && 0 < s && 0 < b then some (AV.sl H.length 0 l s (some c), H ++ [Blk.cells (copies c z.cells)]) else none
      | _, _, _, _, _ => none) = some (.sl H.length 0 n 1 (some n), H ++ [.cells cs]) := by
  have hroom : n * 4 ≤ roomA := by unfold roomA; omega
  have key : ∀ n, (copies n [AV.int .u32 0]).length = n ∧ ∀ c ∈ copies n [AV.int .u32 0], ∃ y, c = .int .u32 y := by
    intro n
    induction n with
    | zero => simp [copies]
    | succ n ih =>
      refine ⟨by simp [copies, ih.1], fun c hc => ?_⟩
      simp only [copies, List.singleton_append, List.mem_cons] at hc
      rcases hc with rfl | hc
      · exact ⟨0, rfl⟩
      · exact ih.2 c hc
  refine ⟨copies n [.int .u32 0], (key n).1, (key n).2, ?_⟩
  simp only [asNat_nat, size198, bytes198, zero198, AV.cells]
  simp [hroom, oneCell]

theorem copies_words : ∀ n, (copies n [AV.int .u32 0]).length = n ∧ ∀ c ∈ copies n [AV.int .u32 0], ∃ y, c = .int .u32 y := by
  intro n
  induction n with
  | zero => simp [copies]
  | succ n ih =>
    refine ⟨by simp [copies, ih.1], fun c hc => ?_⟩
    simp only [copies, List.singleton_append, List.mem_cons] at hc
    rcases hc with rfl | hc
    · exact ⟨0, rfl⟩
    · exact ih.2 c hc

/-- Where Add stands once its memory is laid. -/
def AddSt (a b : AV) (la : Nat) (s : St) : Prop := s.T.length = 69 ∧ s.T.getD 0 .undef = a ∧ s.T.getD 1 .undef = b ∧ s.T.getD 4 .undef = .nilsl ∧ s.T.getD 5 .undef = .sl 0 0 (la + 1) 1 (some (la + 1)) ∧ s.T.getD 6 .undef = .ptr 1 0 ∧ s.T.getD 7 .undef = .func (.func 241) [] [.ptr 1 0] ∧
  ∃ cs c, s.H = [.cells cs, .cells [.int .u32 c]] ∧ cs.length = la + 1 ∧ ∀ c ∈ cs, ∃ y, c = .int .u32 y

theorem add_con (a b : AV) (k : Nat) (ha : NV k a) (hb : NV k b) (hk : k ≤ 2 ^ 39) : Con 211 [a, b] (fun r => NV (k + 1) r) := by
  refine con_of Tryz.func211 rfl ?_
  show W ET _ _ ⟨[a, b] ++ List.replicate 67 .undef, []⟩
  generalize hT : [a, b] ++ List.replicate 67 AV.undef = T
  have hl : T.length = 69 := by subst hT; rfl
  have h0 : T.getD 0 .undef = a := by subst hT; rfl
  have h1 : T.getD 1 .undef = b := by subst hT; rfl
  clear hT
  refine W.seqk fun K hK => W.region ?_
  refine WOps.cons rfl fun K_ hK_ => ?_
  simp (config := { decide := true }) only [WOne, calleeOf, axOp, ev, keep, okk_some, put, ofValue]
  refine hK_ _ ?_
  clear hK_
  simp only [WOps]
  refine hK _ ?_
  clear hK
  refine W.seqk fun K hK => W.region ?_
  refine WOps.cons rfl fun K_ hK_ => ?_
  simp (config := { decide := true }) only [WOne, calleeOf, axOp, ev, keep, okk_some, put, getD_ne, h0]
  refine hK_ _ ?_
  clear hK_
  refine WOps.cons rfl fun K_ hK_ => ?_
  simp (config := { decide := true }) only [WOne, calleeOf, ev, evs, put, getD_self, List.length_set, hl]
  refine call_known (by decide) (viewL_nv ha) (trim_con a k ha (by omega)) fun x hx => ?_
  simp only [AX.kill]
  refine hK_ _ ?_
  clear hK_
  have hx' : NV k x := hx k ha
  refine WOps.cons rfl fun K_ hK_ => ?_
  simp (config := { decide := true }) only [WOne, calleeOf, axOp, ev, keep, okk_some, put, getD_ne, h1]
  refine hK_ _ ?_
  clear hK_
  refine WOps.cons rfl fun K_ hK_ => ?_
  simp (config := { decide := true }) only [WOne, calleeOf, ev, evs, put, getD_self, List.length_set, hl]
  refine call_known (by decide) (viewL_nv hb) (trim_con b k hb (by omega)) fun y hy => ?_
  simp only [AX.kill]
  refine hK_ _ ?_
  clear hK_
  have hy' : NV k y := hy k hb
  refine WOps.cons rfl fun K_ hK_ => ?_
  simp (config := { decide := true }) only [WOne, calleeOf, axOp, ev, keep, okk_some, put, getD_self, getD_ne, List.length_set, hl]
  refine hK_ _ ?_
  clear hK_
  refine WOps.cons rfl fun K_ hK_ => ?_
  simp (config := { decide := true }) only [WOne, calleeOf, axOp, ev, keep, okk_some, put, getD_self, getD_ne, List.length_set, hl]
  refine hK_ _ ?_
  clear hK_
  simp only [WOps]
  refine hK _ ?_
  clear hK
  obtain ⟨lx, hlx, fx⟩ := nv_len hx'
  obtain ⟨ly, hly, fy⟩ := nv_len hy'
  refine W.seqk fun Ks hKs => ?_
  refine W.seqk fun K hK => W.region ?_
  refine WOps.cons rfl fun K_ hK_ => ?_
  simp (config := { decide := true }) only [WOne, calleeOf, axOp, ev, keep, okk_some, put, getD_self, getD_ne, List.length_set, hl]
  refine hK_ _ ?_
  clear hK_
  refine WOps.cons rfl fun K_ hK_ => ?_
  simp (config := { decide := true }) only [WOne, calleeOf, axOp, ev, evs, okk_some, put, getD_self, List.length_set, et_P, hl, fun H => (fx H).1]
  refine hK_ _ ?_
  clear hK_
  refine WOps.cons rfl fun K_ hK_ => ?_
  simp (config := { decide := true }) only [WOne, calleeOf, axOp, ev, keep, okk_some, put, getD_self, getD_ne, List.length_set, hl]
  refine hK_ _ ?_
  clear hK_
  refine WOps.cons rfl fun K_ hK_ => ?_
  simp (config := { decide := true }) only [WOne, calleeOf, axOp, ev, evs, okk_some, put, getD_self, List.length_set, et_P, hl, fun H => (fy H).1]
  refine hK_ _ ?_
  clear hK_
  refine WOps.cons rfl fun K_ hK_ => ?_
  simp (config := { decide := true }) only [WOne, calleeOf, axOp, ev, keep, okk_some, put, if_true, getD_self, getD_ne, List.length_set, binA, intOp, hl]
  refine hK_ _ ?_
  clear hK_
  simp only [WOps]
  refine hK _ ?_
  clear hK
  have rest : ∀ (T : List AV) (a b : AV) (la lb : Nat), T.length = 69 → T.getD 0 .undef = a → T.getD 1 .undef = b → T.getD 4 .undef = .nilsl → lb ≤ la → la ≤ k →
      (∀ H, builtinA Tryz.prog .len [24] H [a] = some (.int .i64 (la : Nat), H) ∧ ∀ i, i < la → ∃ p y, indexAddrA Tryz.prog 24 a i = some p ∧ ∀ H, loadA Tryz.prog H 198 p = some (.int .u32 y)) →
      (∀ H, builtinA Tryz.prog .len [24] H [b] = some (.int .i64 (lb : Nat), H) ∧ ∀ i, i < lb → ∃ p y, indexAddrA Tryz.prog 24 b i = some p ∧ ∀ H, loadA Tryz.prog H 198 p = some (.int .u32 y)) → Ks ⟨T, []⟩ := by
    clear hl fx fy hlx hly hx' hy'
    intro T a b la lb hl h0 h1 h4 hle hla fa fb
    refine hKs _ ?_
    clear hKs
    have hroom : ((la + 1) * 4 ≤ roomA) = True := by simp only [eq_iff_iff, iff_true]; unfold roomA; omega
    have hw : IntKind.i64.wrap ((la : Int) + 1) = ((la + 1 : Nat) : Int) := by rw [wrapN] <;> omega
    refine W.seqk fun K hK => W.region ?_
    refine WOps.cons rfl fun K_ hK_ => ?_
    simp (config := { decide := true }) only [WOne, calleeOf, axOp, ev, keep, okk_some, put, h0]
    refine hK_ _ ?_
    clear hK_
    refine WOps.cons rfl fun K_ hK_ => ?_
    simp (config := { decide := true }) only [WOne, calleeOf, axOp, ev, evs, okk_some, put, getD_self, et_P, hl, fun H => (fa H).1]
    refine hK_ _ ?_
    clear hK_
    refine WOps.cons rfl fun K_ hK_ => ?_
    simp (config := { decide := true }) only [WOne, calleeOf, axOp, ev, keep, okk_some, put, if_true, ofValue, getD_self, List.length_set, binA, intOp, hl, hw]
    refine hK_ _ ?_
    clear hK_
    refine WOps.cons rfl fun K_ hK_ => ?_
    simp (config := { decide := true }) only [WOne, calleeOf, axOp, ev, okk_some, put, if_true, getD_self, List.length_set, P24, size198, et_P, decide_true, hl, asNat_nat, bytes198, zero198, hroom, AV.cells, oneCell, List.all_cons, List.all_nil, Nat.le_refl, Bool.and_self, List.length_nil, List.nil_append]
    refine hK_ _ ?_
    clear hK_
    obtain ⟨cw1, cw2⟩ := copies_words (la + 1)
    generalize copies (la + 1) [AV.int .u32 0] = cs at cw1 cw2 ⊢
    refine WOps.cons rfl fun K_ hK_ => ?_
    simp (config := { decide := true }) only [WOne, calleeOf, axOp, ev, keep, okk_some, put, getD_self, List.length_set, hl]
    refine hK_ _ ?_
    clear hK_
    simp only [WOps]
    refine hK _ ?_
    clear hK
    have st0 : ∀ c z, storeA Tryz.prog [.cells cs, .cells [.int .u32 c]] 198 (.ptr 1 0) (.int .u32 z) = some [.cells cs, .cells [.int .u32 z]] := fun c z => by simp [storeA, size198, AV.cells, oneCell, writeAt]
    refine W.seqk fun K hK => W.region ?_
    refine WOps.cons rfl fun K_ hK_ => ?_
    simp (config := { decide := true }) only [WOne, calleeOf, axOp, okk_some, put, if_true, et_P, zero198, newA, AV.cells, List.length_cons, List.length_nil, Nat.zero_add, List.cons_append, List.nil_append]
    refine hK_ _ ?_
    clear hK_
    refine WOps.cons rfl fun K_ hK_ => ?_
    simp (config := { decide := true }) only [WOne, calleeOf, axOp, ev, okk_some, put, ofValue, getD_self, List.length_set, et_P, hl, st0]
    refine hK_ _ ?_
    clear hK_
    simp only [WOps]
    refine hK _ ?_
    clear hK
    refine W.seqk fun K hK => W.region ?_
    refine WOps.cons rfl fun K_ hK_ => ?_
    simp (config := { decide := true }) only [WOne, calleeOf, axOp, ev, evs, okk_some, put, getD_self, List.length_set, hl]
    refine hK_ _ ?_
    clear hK_
    refine WOps.cons rfl fun K_ hK_ => ?_
    simp (config := { decide := true }) only [WOne, calleeOf, axOp, ev, keep, okk_some, put, getD_self, List.length_set, hl]
    refine hK_ _ ?_
    clear hK_
    simp only [WOps]
    refine hK _ ?_
    clear hK
    refine W.seqk fun K1 hK1 => ?_
    refine W.seqk fun K hK => W.region ?_
    refine WOps.cons rfl fun K_ hK_ => ?_
    simp (config := { decide := true }) only [WOne, calleeOf, axOp, ev, keep, okk_some, put, getD_ne, h1]
    refine hK_ _ ?_
    clear hK_
    refine WOps.cons rfl fun K_ hK_ => ?_
    simp (config := { decide := true }) only [WOne, calleeOf, axOp, ev, evs, okk_some, put, getD_self, List.length_set, et_P, hl, fun H => (fb H).1]
    refine hK_ _ ?_
    clear hK_
    refine WOps.cons rfl fun K_ hK_ => ?_
    simp (config := { decide := true }) only [WOne, calleeOf, axOp, ev, keep, okk_some, put, ofValue]
    refine hK_ _ ?_
    clear hK_
    simp only [WOps]
    refine hK _ ?_
    clear hK
    refine W.block (W.loop (fun n s => AddSt a b la s ∧ s.T.getD 27 .undef = b ∧ s.T.getD 28 .undef = .int .i64 lb ∧ ∃ i : Nat, i + n = lb ∧ s.T.getD 29 .undef = .int .i64 i) (n := lb) ?_ ?_)
    · refine ⟨⟨?_, ?_, ?_, ?_, ?_, ?_, ?_, cs, 0, rfl, cw1, cw2⟩, ?_, ?_, 0, Nat.zero_add _, ?_⟩ <;> simp (config := { decide := true }) only [getD_self, getD_ne, List.length_set, hl, h0, h1, h4, Int.natCast_zero]
    · rintro n ⟨T', H'⟩ ⟨⟨hl', h0', h1', h4', h5', h6', h7', cs, c, rfl, cw1, cw2⟩, h27, h28, i, hin, h29⟩
      simp only at hl' h0' h1' h4' h5' h6' h7' h27 h28 h29
      by_cases hlt : i < lb
      · have hb1 : ((i : Int) < (lb : Int)) = True := by simp [hlt]
        obtain ⟨pa, ya, ia, la1⟩ := (fa []).2 i (by omega)
        obtain ⟨pb, yb, ib, lb1⟩ := (fb []).2 i hlt
        have hw1 : IntKind.i64.wrap ((i : Int) + 1) = ((i + 1 : Nat) : Int) := by rw [wrapN] <;> omega
        refine W.seqk fun K hK => W.region ?_
        refine WOps.cons rfl fun K_ hK_ => ?_
        simp (config := { decide := true }) only [WOne, calleeOf, axOp, ev, keep, okk_some, put, if_true, binA, intOp, decide_true, h28, h29, hb1]
        refine hK_ _ ?_
        clear hK_
        simp only [WOps]
        refine hK _ ?_
        clear hK
        refine W.seqk fun K hK => W.cond (b := true) (by simp (config := { decide := true }) only [ev, getD_self, hl']) (fun _ => ?_) (fun h => by simp at h)
        refine W.skip (hK _ ?_)
        clear hK
        refine W.seqk fun K2 hK2 => W.block ?_
        refine W.seqk fun K hK => W.region ?_
        refine WOps.cons rfl fun K_ hK_ => ?_
        simp (config := { decide := true }) only [WOne, calleeOf, axOp, ev, keep, okk_some, put, getD_ne, h29]
        refine hK_ _ ?_
        clear hK_
        refine WOps.cons rfl fun K_ hK_ => ?_
        simp (config := { decide := true }) only [WOne, calleeOf, axOp, ev, keep, okk_some, put, getD_ne, Option.bind_some, et_P, h27, h29, asNat_nat, ib]
        refine hK_ _ ?_
        clear hK_
        refine WOps.cons rfl fun K_ hK_ => ?_
        simp (config := { decide := true }) only [WOne, calleeOf, axOp, ev, keep, okk_some, put, getD_self, List.length_set, et_P, hl', lb1]
        refine hK_ _ ?_
        clear hK_
        refine WOps.cons rfl fun K_ hK_ => ?_
        simp (config := { decide := true }) only [WOne, calleeOf, axOp, ev, keep, okk_some, put, getD_self, getD_ne, List.length_set, hl']
        refine hK_ _ ?_
        clear hK_
        refine WOps.cons rfl fun K_ hK_ => ?_
        simp (config := { decide := true }) only [WOne, calleeOf, axOp, ev, keep, okk_some, put, getD_self, getD_ne, List.length_set, hl']
        refine hK_ _ ?_
        clear hK_
        simp only [WOps]
        refine hK _ ?_
        clear hK
        refine W.region ?_
        refine WOps.cons rfl fun K_ hK_ => ?_
        simp (config := { decide := true }) only [WOne, calleeOf, axOp, ev, keep, okk_some, put, getD_ne, h5']
        refine hK_ _ ?_
        clear hK_
        refine WOps.cons rfl fun K_ hK_ => ?_
        simp (config := { decide := true }) only [WOne, calleeOf, axOp, ev, keep, okk_some, put, getD_self, getD_ne, List.length_set, hl']
        refine hK_ _ ?_
        clear hK_
        refine WOps.cons rfl fun K_ hK_ => ?_
        simp (config := { decide := true }) only [WOne, calleeOf, axOp, ev, keep, okk_some, put, getD_ne, h7']
        refine hK_ _ ?_
        clear hK_
        refine WOps.cons rfl fun K_ hK_ => ?_
        simp (config := { decide := true }) only [WOne, calleeOf, axOp, ev, keep, okk_some, put, getD_ne, h0']
        refine hK_ _ ?_
        clear hK_
        refine WOps.cons rfl fun K_ hK_ => ?_
        simp (config := { decide := true }) only [WOne, calleeOf, axOp, ev, keep, okk_some, put, getD_self, getD_ne, List.length_set, hl']
        refine hK_ _ ?_
        clear hK_
        refine WOps.cons rfl fun K_ hK_ => ?_
        simp (config := { decide := true }) only [WOne, calleeOf, axOp, ev, keep, okk_some, put, getD_self, getD_ne, List.length_set, Option.bind_some, et_P, hl', asNat_nat, ia]
        refine hK_ _ ?_
        clear hK_
        refine WOps.cons rfl fun K_ hK_ => ?_
        simp (config := { decide := true }) only [WOne, calleeOf, axOp, ev, keep, okk_some, put, getD_self, List.length_set, et_P, hl', la1]
        refine hK_ _ ?_
        clear hK_
        refine WOps.cons rfl fun K_ hK_ => ?_
        simp (config := { decide := true }) only [WOne, calleeOf, axOp, ev, keep, okk_some, put, getD_self, getD_ne, List.length_set, hl']
        refine hK_ _ ?_
        clear hK_
        refine WOps.cons rfl fun K_ hK_ => ?_
        simp (config := { decide := true }) only [WOne, calleeOf, ev, evs, put, getD_self, getD_ne, List.length_set, hl']
        obtain ⟨r, H1, hd1, s1, c1, rfl, rfl⟩ := digit_w (.cells cs) ya yb c
        refine call_inline (by decide) ⟨_, _, hd1, ?_⟩
        refine hK_ _ ?_
        clear hK_
        obtain ⟨cs1, st1, w1, w2⟩ := store_own (H := [.cells cs, .cells [.int .u32 c1]]) (id := 0) (off := 0 + i) (cs := cs) rfl (by omega) s1 cw2
        refine WOps.cons rfl fun K_ hK_ => ?_
        simp (config := { decide := true }) only [WOne, calleeOf, axOp, ev, keep, okk_some, put, getD_self, getD_ne, List.length_set, Option.bind_some, et_P, hl', asNat_nat, index_own (id := 0) (off := 0) (sz := 1) (cap := some (la + 1)) (show i < la + 1 by omega)]
        refine hK_ _ ?_
        clear hK_
        refine WOps.cons rfl fun K_ hK_ => ?_
        simp (config := { decide := true }) only [WOne, calleeOf, axOp, ev, okk_some, put, getD_self, getD_ne, List.length_set, et_P, hl', st1]
        refine hK_ _ ?_
        clear hK_
        simp only [WOps, Th, outOf]
        refine hK2 _ (W.region ?_)
        clear hK2
        refine WOps.cons rfl fun K_ hK_ => ?_
        simp (config := { decide := true }) only [WOne, calleeOf, axOp, ev, keep, okk_some, put, if_true, ofValue, getD_ne, binA, intOp, h29, hw1]
        refine hK_ _ ?_
        clear hK_
        refine WOps.cons rfl fun K_ hK_ => ?_
        simp (config := { decide := true }) only [WOne, calleeOf, axOp, ev, keep, okk_some, put, getD_self, List.length_set, hl']
        refine hK_ _ ?_
        clear hK_
        simp only [WOps, Th]
        refine ⟨lb - (i + 1), by omega, ⟨?_, ?_, ?_, ?_, ?_, ?_, ?_, cs1, c1, ?_, by omega, w2⟩, ?_, ?_, i + 1, by omega, ?_⟩ <;> simp (config := { decide := true }) only [getD_self, getD_ne, List.length_set, hl', h0', h1', h4', h5', h6', h7', h27, h28, List.set_cons_zero]
      · have hb1 : ((i : Int) < (lb : Int)) = False := by simp; omega
        refine W.seqk fun K hK => W.region ?_
        refine WOps.cons rfl fun K_ hK_ => ?_
        simp (config := { decide := true }) only [WOne, calleeOf, axOp, ev, keep, okk_some, put, if_true, binA, intOp, decide_false, h28, h29, hb1]
        refine hK_ _ ?_
        clear hK_
        simp only [WOps]
        refine hK _ ?_
        clear hK
        refine W.seqk fun K hK => W.cond (b := false) (by simp (config := { decide := true }) only [ev, getD_self, hl']) (fun h => by simp at h) (fun _ => W.exit ?_)
        simp only [Th, outOf, if_true]
        refine hK1 _ ?_
        clear hK1
        refine W.seqk fun K1 hK1 => ?_
        refine W.seqk fun K hK => W.region ?_
        refine WOps.cons rfl fun K_ hK_ => ?_
        simp (config := { decide := true }) only [WOne, calleeOf, axOp, ev, keep, okk_some, put, getD_ne, h1']
        refine hK_ _ ?_
        clear hK_
        refine WOps.cons rfl fun K_ hK_ => ?_
        simp (config := { decide := true }) only [WOne, calleeOf, axOp, ev, evs, okk_some, put, getD_self, List.length_set, et_P, hl', fun H => (fb H).1]
        refine hK_ _ ?_
        clear hK_
        refine WOps.cons rfl fun K_ hK_ => ?_
        simp (config := { decide := true }) only [WOne, calleeOf, axOp, ev, keep, okk_some, put, getD_self, List.length_set, hl']
        refine hK_ _ ?_
        clear hK_
        simp only [WOps]
        refine hK _ ?_
        clear hK
        refine W.block (W.loop (fun n s => AddSt a b la s ∧ ∃ i : Nat, i + n = la ∧ s.T.getD 10 .undef = .int .i64 i) (n := la - lb) ?_ ?_)
        · refine ⟨⟨?_, ?_, ?_, ?_, ?_, ?_, ?_, cs, c, rfl, cw1, cw2⟩, lb, by omega, ?_⟩ <;> simp (config := { decide := true }) only [getD_self, getD_ne, List.length_set, hl', h0', h1', h4', h5', h6', h7']
        · clear hl' h0' h1' h4' h5' h6' h7' cw1 cw2 h27 h28 h29 hin hlt hb1
          rintro n ⟨T', H'⟩ ⟨⟨hl', h0', h1', h4', h5', h6', h7', cs, c, rfl, cw1, cw2⟩, i, hin, h10⟩
          simp only at hl' h0' h1' h4' h5' h6' h7' h10
          refine W.seqk fun K2 hK2 => ?_
          by_cases hlt : i < la
          · have hb1 : ((i : Int) < (la : Int)) = True := by simp [hlt]
            obtain ⟨pa, ya, ia, la1⟩ := (fa []).2 i (by omega)
            have hw1 : IntKind.i64.wrap ((i : Int) + 1) = ((i + 1 : Nat) : Int) := by rw [wrapN] <;> omega
            refine W.seqk fun K hK => W.region ?_
            refine WOps.cons rfl fun K_ hK_ => ?_
            simp (config := { decide := true }) only [WOne, calleeOf, axOp, ev, keep, okk_some, put, h10]
            refine hK_ _ ?_
            clear hK_
            refine WOps.cons rfl fun K_ hK_ => ?_
            simp (config := { decide := true }) only [WOne, calleeOf, axOp, ev, keep, okk_some, put, getD_ne, h0']
            refine hK_ _ ?_
            clear hK_
            refine WOps.cons rfl fun K_ hK_ => ?_
            simp (config := { decide := true }) only [WOne, calleeOf, axOp, ev, evs, okk_some, put, getD_self, List.length_set, et_P, hl', fun H => (fa H).1]
            refine hK_ _ ?_
            clear hK_
            refine WOps.cons rfl fun K_ hK_ => ?_
            simp (config := { decide := true }) only [WOne, calleeOf, axOp, ev, keep, okk_some, put, if_true, getD_self, getD_ne, List.length_set, binA, intOp, decide_true, hl', hb1]
            refine hK_ _ ?_
            clear hK_
            simp only [WOps]
            refine hK _ ?_
            clear hK
            refine W.cond (b := true) (by simp (config := { decide := true }) only [ev, getD_self, List.length_set, hl']) (fun _ => ?_) (fun h => by simp at h)
            refine W.skip (hK2 _ ?_)
            clear hK2
            refine W.seqk fun K2 hK2 => W.block ?_
            refine W.region ?_
            refine WOps.cons rfl fun K_ hK_ => ?_
            simp (config := { decide := true }) only [WOne, calleeOf, axOp, ev, keep, okk_some, put, getD_ne, h5']
            refine hK_ _ ?_
            clear hK_
            refine WOps.cons rfl fun K_ hK_ => ?_
            simp (config := { decide := true }) only [WOne, calleeOf, axOp, ev, keep, okk_some, put, getD_ne, h10]
            refine hK_ _ ?_
            clear hK_
            refine WOps.cons rfl fun K_ hK_ => ?_
            simp (config := { decide := true }) only [WOne, calleeOf, axOp, ev, keep, okk_some, put, getD_ne, h7']
            refine hK_ _ ?_
            clear hK_
            refine WOps.cons rfl fun K_ hK_ => ?_
            simp (config := { decide := true }) only [WOne, calleeOf, axOp, ev, keep, okk_some, put, getD_ne, h0']
            refine hK_ _ ?_
            clear hK_
            refine WOps.cons rfl fun K_ hK_ => ?_
            simp (config := { decide := true }) only [WOne, calleeOf, axOp, ev, keep, okk_some, put, getD_ne, h10]
            refine hK_ _ ?_
            clear hK_
            refine WOps.cons rfl fun K_ hK_ => ?_
            simp (config := { decide := true }) only [WOne, calleeOf, axOp, ev, keep, okk_some, put, getD_self, getD_ne, List.length_set, Option.bind_some, et_P, hl', asNat_nat, ia]
            refine hK_ _ ?_
            clear hK_
            refine WOps.cons rfl fun K_ hK_ => ?_
            simp (config := { decide := true }) only [WOne, calleeOf, axOp, ev, keep, okk_some, put, getD_self, List.length_set, et_P, hl', la1]
            refine hK_ _ ?_
            clear hK_
            refine WOps.cons rfl fun K_ hK_ => ?_
            simp (config := { decide := true }) only [WOne, calleeOf, ev, evs, put, ofValue, getD_self, getD_ne, List.length_set, hl']
            obtain ⟨r, H1, hd1, s1, c1, rfl, rfl⟩ := digit_w (.cells cs) ya 0 c
            refine call_inline (by decide) ⟨_, _, hd1, ?_⟩
            refine hK_ _ ?_
            clear hK_
            obtain ⟨cs1, st1, w1, w2⟩ := store_own (H := [.cells cs, .cells [.int .u32 c1]]) (id := 0) (off := 0 + i) (cs := cs) rfl (by omega) s1 cw2
            refine WOps.cons rfl fun K_ hK_ => ?_
            simp (config := { decide := true }) only [WOne, calleeOf, axOp, ev, keep, okk_some, put, getD_self, getD_ne, List.length_set, Option.bind_some, et_P, hl', asNat_nat, index_own (id := 0) (off := 0) (sz := 1) (cap := some (la + 1)) (show i < la + 1 by omega)]
            refine hK_ _ ?_
            clear hK_
            refine WOps.cons rfl fun K_ hK_ => ?_
            simp (config := { decide := true }) only [WOne, calleeOf, axOp, ev, okk_some, put, getD_self, getD_ne, List.length_set, et_P, hl', st1]
            refine hK_ _ ?_
            clear hK_
            simp only [WOps, Th, outOf]
            refine hK2 _ (W.region ?_)
            clear hK2
            refine WOps.cons rfl fun K_ hK_ => ?_
            simp (config := { decide := true }) only [WOne, calleeOf, axOp, ev, keep, okk_some, put, getD_ne, h10]
            refine hK_ _ ?_
            clear hK_
            refine WOps.cons rfl fun K_ hK_ => ?_
            simp (config := { decide := true }) only [WOne, calleeOf, axOp, ev, keep, okk_some, put, if_true, ofValue, getD_self, List.length_set, binA, intOp, hl', hw1]
            refine hK_ _ ?_
            clear hK_
            refine WOps.cons rfl fun K_ hK_ => ?_
            simp (config := { decide := true }) only [WOne, calleeOf, axOp, ev, keep, okk_some, put, getD_self, List.length_set, hl']
            refine hK_ _ ?_
            clear hK_
            simp only [WOps, Th]
            refine ⟨la - (i + 1), by omega, ⟨?_, ?_, ?_, ?_, ?_, ?_, ?_, cs1, c1, ?_, by omega, w2⟩, i + 1, by omega, ?_⟩ <;> simp (config := { decide := true }) only [getD_self, getD_ne, List.length_set, hl', h0', h1', h4', h5', h6', h7', List.set_cons_zero]
          · have hb1 : ((i : Int) < (la : Int)) = False := by simp; omega
            refine W.seqk fun K hK => W.region ?_
            refine WOps.cons rfl fun K_ hK_ => ?_
            simp (config := { decide := true }) only [WOne, calleeOf, axOp, ev, keep, okk_some, put, h10]
            refine hK_ _ ?_
            clear hK_
            refine WOps.cons rfl fun K_ hK_ => ?_
            simp (config := { decide := true }) only [WOne, calleeOf, axOp, ev, keep, okk_some, put, getD_ne, h0']
            refine hK_ _ ?_
            clear hK_
            refine WOps.cons rfl fun K_ hK_ => ?_
            simp (config := { decide := true }) only [WOne, calleeOf, axOp, ev, evs, okk_some, put, getD_self, List.length_set, et_P, hl', fun H => (fa H).1]
            refine hK_ _ ?_
            clear hK_
            refine WOps.cons rfl fun K_ hK_ => ?_
            simp (config := { decide := true }) only [WOne, calleeOf, axOp, ev, keep, okk_some, put, if_true, getD_self, getD_ne, List.length_set, binA, intOp, decide_false, hl', hb1]
            refine hK_ _ ?_
            clear hK_
            simp only [WOps]
            refine hK _ ?_
            clear hK
            refine W.cond (b := false) (by simp (config := { decide := true }) only [ev, getD_self, List.length_set, hl']) (fun h => by simp at h) (fun _ => W.exit ?_)
            simp only [Th, outOf, if_true]
            refine hK1 _ ?_
            clear hK1 hK2
            refine W.seqk fun K hK => W.region ?_
            refine WOps.cons rfl fun K_ hK_ => ?_
            simp (config := { decide := true }) only [WOne, calleeOf, axOp, ev, keep, okk_some, put, getD_ne, h5']
            refine hK_ _ ?_
            clear hK_
            refine WOps.cons rfl fun K_ hK_ => ?_
            simp (config := { decide := true }) only [WOne, calleeOf, axOp, ev, keep, okk_some, put, getD_ne, h0']
            refine hK_ _ ?_
            clear hK_
            refine WOps.cons rfl fun K_ hK_ => ?_
            simp (config := { decide := true }) only [WOne, calleeOf, axOp, ev, evs, okk_some, put, getD_self, List.length_set, et_P, hl', fun H => (fa H).1]
            refine hK_ _ ?_
            clear hK_
            have ld : loadA Tryz.prog [.cells cs, .cells [.int .u32 c]] 198 (.ptr 1 0) = some (.int .u32 c) := by simp [loadA, readAt, agg198]
            obtain ⟨cs1, st1, w1, w2⟩ := store_own (H := [.cells cs, .cells [.int .u32 c]]) (id := 0) (off := 0 + la) (cs := cs) rfl (by omega) c cw2
            refine WOps.cons rfl fun K_ hK_ => ?_
            simp (config := { decide := true }) only [WOne, calleeOf, axOp, ev, keep, okk_some, put, getD_ne, et_P, h6', ld]
            refine hK_ _ ?_
            clear hK_
            refine WOps.cons rfl fun K_ hK_ => ?_
            simp (config := { decide := true }) only [WOne, calleeOf, axOp, ev, keep, okk_some, put, getD_self, getD_ne, List.length_set, Option.bind_some, et_P, hl', asNat_nat, index_own (id := 0) (off := 0) (sz := 1) (cap := some (la + 1)) (show la < la + 1 by omega)]
            refine hK_ _ ?_
            clear hK_
            refine WOps.cons rfl fun K_ hK_ => ?_
            simp (config := { decide := true }) only [WOne, calleeOf, axOp, ev, okk_some, put, getD_self, getD_ne, List.length_set, et_P, hl', st1, List.set_cons_zero]
            refine hK_ _ ?_
            clear hK_
            simp only [WOps]
            refine hK _ ?_
            clear hK
            refine W.seqk fun K hK => W.region ?_
            refine WOps.cons rfl fun K_ hK_ => ?_
            simp (config := { decide := true }) only [WOne, calleeOf, axOp, ev, keep, okk_some, put, getD_ne, h5']
            refine hK_ _ ?_
            clear hK_
            have hcs1 : NV (k + 1) (.lst cs1 (la + 1) (some (la + 1))) := nv_words (by omega) (by omega) w2
            have hvw : view [.cells cs1, .cells [.int .u32 c]] depthA (.sl 0 0 (la + 1) 1 (some (la + 1))) = some (.lst cs1 (la + 1) (some (la + 1)), [0]) := by
              rw [view_words (cs := cs1) rfl (by omega) w2, List.drop_zero, List.take_of_length_le (by omega)]
            refine WOps.cons rfl fun K_ hK_ => ?_
            simp (config := { decide := true }) only [WOne, calleeOf, ev, evs, put, getD_self, List.length_set, hl']
            refine call_known (by decide) (viewL_one hvw) (trim_con _ (k + 1) hcs1 (by omega)) fun z hz => ?_
            simp only [AX.kill]
            refine hK_ _ ?_
            clear hK_
            have hz' : NV (k + 1) z := hz (k + 1) hcs1
            refine WOps.cons rfl fun K_ hK_ => ?_
            simp (config := { decide := true }) only [WOne, calleeOf, axOp, ev, keep, okk_some, put, getD_self, List.length_set, hl']
            refine hK_ _ ?_
            clear hK_
            simp only [WOps]
            refine hK _ ?_
            clear hK
            refine W.ret ⟨.inr rfl, z, ?_, z, [], view_nv hz' _, hz'⟩
            simp (config := { decide := true }) only [getD_self, List.length_set, resultsA, Tryz.results211, resultsL, hl']
  by_cases hlt : lx < ly
  · have hb1 : ((lx : Int) < (ly : Int)) = True := by simp [hlt]
    refine W.cond (b := true) (by simp (config := { decide := true }) only [ev, getD_self, List.length_set, decide_true, hl, hb1]) (fun _ => W.region ?_) (fun h => by simp at h)
    refine WOps.cons rfl fun K_ hK_ => ?_
    simp (config := { decide := true }) only [WOne, calleeOf, axOp, ev, keep, okk_some, put, getD_self, getD_ne, List.length_set, hl]
    refine hK_ _ ?_
    clear hK_
    refine WOps.cons rfl fun K_ hK_ => ?_
    simp (config := { decide := true }) only [WOne, calleeOf, axOp, ev, keep, okk_some, put, getD_self, getD_ne, List.length_set, hl]
    refine hK_ _ ?_
    clear hK_
    refine WOps.cons rfl fun K_ hK_ => ?_
    simp (config := { decide := true }) only [WOne, calleeOf, axOp, ev, keep, okk_some, put, getD_self, getD_ne, List.length_set, hl]
    refine hK_ _ ?_
    clear hK_
    refine WOps.cons rfl fun K_ hK_ => ?_
    simp (config := { decide := true }) only [WOne, calleeOf, axOp, ev, keep, okk_some, put, getD_self, getD_ne, List.length_set, hl]
    refine hK_ _ ?_
    clear hK_
    simp only [WOps, Th]
    refine rest _ y x ly lx ?_ ?_ ?_ ?_ (by omega) hly fy fx <;> simp (config := { decide := true }) only [getD_self, getD_ne, List.length_set, hl]
  · have hb1 : ((lx : Int) < (ly : Int)) = False := by simp; omega
    refine W.cond (b := false) (by simp (config := { decide := true }) only [ev, getD_self, List.length_set, decide_false, hl, hb1]) (fun h => by simp at h) (fun _ => W.skip ?_)
    simp only [Th]
    refine rest _ x y lx ly ?_ ?_ ?_ ?_ (by omega) hlx fx fy <;> simp (config := { decide := true }) only [getD_self, getD_ne, List.length_set, hl]

end Go.AX

/- AX, part 29: comparison and difference of natural numbers. -/
set_option linter.unusedVariables false
set_option linter.unusedSimpArgs false
set_option maxRecDepth 4000
namespace Go.AX
open Go Go.RowKit Go.Proofs

theorem cmp_con (a b : AV) (k : Nat) (ha : NV k a) (hb : NV k b) (hk : k ≤ 2 ^ 39) : Con 231 [a, b] (Spec 231 [a, b]) := by
  refine con_of Tryz.func231 rfl ?_
  show W ET _ _ ⟨[a, b] ++ List.replicate 45 .undef, []⟩
  generalize hT : [a, b] ++ List.replicate 45 AV.undef = T
  have hl : T.length = 47 := by subst hT; rfl
  have h0 : T.getD 0 .undef = a := by subst hT; rfl
  have h1 : T.getD 1 .undef = b := by subst hT; rfl
  clear hT
  refine W.seqk fun K hK => W.region ?_
  refine WOps.cons rfl fun K_ hK_ => ?_
  simp (config := { decide := true }) only [WOne, calleeOf, axOp, ev, keep, okk_some, put, ofValue]
  refine hK_ _ ?_
  clear hK_
  simp only [WOps]
  refine hK _ ?_
  clear hK
  refine W.seqk fun K hK => W.region ?_
  refine WOps.cons rfl fun K_ hK_ => ?_
  simp (config := { decide := true }) only [WOne, calleeOf, axOp, ev, keep, okk_some, put, getD_ne, h0]
  refine hK_ _ ?_
  clear hK_
  refine WOps.cons rfl fun K_ hK_ => ?_
  simp (config := { decide := true }) only [WOne, calleeOf, ev, evs, put, getD_self, List.length_set, hl]
  refine call_known (by decide) (viewL_nv ha) (trim_con a k ha (by omega)) fun x hx => ?_
  simp only [AX.kill]
  refine hK_ _ ?_
  clear hK_
  have hx' : NV k x := hx k ha
  refine WOps.cons rfl fun K_ hK_ => ?_
  simp (config := { decide := true }) only [WOne, calleeOf, axOp, ev, keep, okk_some, put, getD_ne, h1]
  refine hK_ _ ?_
  clear hK_
  refine WOps.cons rfl fun K_ hK_ => ?_
  simp (config := { decide := true }) only [WOne, calleeOf, ev, evs, put, getD_self, List.length_set, hl]
  refine call_known (by decide) (viewL_nv hb) (trim_con b k hb (by omega)) fun y hy => ?_
  simp only [AX.kill]
  refine hK_ _ ?_
  clear hK_
  have hy' : NV k y := hy k hb
  refine WOps.cons rfl fun K_ hK_ => ?_
  simp (config := { decide := true }) only [WOne, calleeOf, axOp, ev, keep, okk_some, put, getD_self, getD_ne, List.length_set, hl]
  refine hK_ _ ?_
  clear hK_
  refine WOps.cons rfl fun K_ hK_ => ?_
  simp (config := { decide := true }) only [WOne, calleeOf, axOp, ev, keep, okk_some, put, getD_self, getD_ne, List.length_set, hl]
  refine hK_ _ ?_
  clear hK_
  simp only [WOps]
  refine hK _ ?_
  clear hK
  obtain ⟨lx, hlx, fx⟩ := nv_len hx'
  obtain ⟨ly, hly, fy⟩ := nv_len hy'
  refine W.seqk fun Ks hKs => W.block ?_
  refine W.seqk fun K hK => W.region ?_
  refine WOps.cons rfl fun K_ hK_ => ?_
  simp (config := { decide := true }) only [WOne, calleeOf, axOp, ev, keep, okk_some, put, getD_self, getD_ne, List.length_set, hl]
  refine hK_ _ ?_
  clear hK_
  refine WOps.cons rfl fun K_ hK_ => ?_
  simp (config := { decide := true }) only [WOne, calleeOf, axOp, ev, evs, okk_some, put, getD_self, List.length_set, et_P, hl, fun H => (fx H).1]
  refine hK_ _ ?_
  clear hK_
  refine WOps.cons rfl fun K_ hK_ => ?_
  simp (config := { decide := true }) only [WOne, calleeOf, axOp, ev, keep, okk_some, put, getD_self, getD_ne, List.length_set, hl]
  refine hK_ _ ?_
  clear hK_
  refine WOps.cons rfl fun K_ hK_ => ?_
  simp (config := { decide := true }) only [WOne, calleeOf, axOp, ev, evs, okk_some, put, getD_self, List.length_set, et_P, hl, fun H => (fy H).1]
  refine hK_ _ ?_
  clear hK_
  refine WOps.cons rfl fun K_ hK_ => ?_
  simp (config := { decide := true }) only [WOne, calleeOf, axOp, ev, keep, okk_some, put, if_true, getD_self, getD_ne, List.length_set, binA, intOp, hl]
  refine hK_ _ ?_
  clear hK_
  refine WOps.cons rfl fun K_ hK_ => ?_
  simp (config := { decide := true }) only [WOne, calleeOf, axOp, ev, keep, okk_some, put, getD_self, List.length_set, hl]
  refine hK_ _ ?_
  clear hK_
  simp only [WOps]
  refine hK _ ?_
  clear hK
  by_cases hgt : ly < lx
  · have hb1 : ((lx : Int) > (ly : Int)) = True := by simp [hgt]
    refine W.cond (b := true) (by simp (config := { decide := true }) only [ev, getD_self, List.length_set, decide_true, hl, hb1]) (fun _ => ?_) (fun h => by simp at h)
    refine W.seqk fun K hK => W.region ?_
    refine WOps.cons rfl fun K_ hK_ => ?_
    simp (config := { decide := true }) only [WOne, calleeOf, axOp, ev, keep, okk_some, put, ofValue]
    refine hK_ _ ?_
    clear hK_
    simp only [WOps]
    refine hK _ ?_
    clear hK
    refine W.ret ⟨.inr rfl, .int .i64 1, ?_, _, [], rfl, _, rfl⟩
    simp (config := { decide := true }) only [getD_self, List.length_set, resultsA, Tryz.results231, resultsL, hl]
  · have hb1 : ((lx : Int) > (ly : Int)) = False := by simp; omega
    refine W.cond (b := false) (by simp (config := { decide := true }) only [ev, getD_self, List.length_set, decide_false, hl, hb1]) (fun h => by simp at h) (fun _ => ?_)
    refine W.seqk fun K hK => W.region ?_
    refine WOps.cons rfl fun K_ hK_ => ?_
    simp (config := { decide := true }) only [WOne, calleeOf, axOp, ev, keep, okk_some, put, getD_self, getD_ne, List.length_set, hl]
    refine hK_ _ ?_
    clear hK_
    refine WOps.cons rfl fun K_ hK_ => ?_
    simp (config := { decide := true }) only [WOne, calleeOf, axOp, ev, evs, okk_some, put, getD_self, List.length_set, et_P, hl, fun H => (fx H).1]
    refine hK_ _ ?_
    clear hK_
    refine WOps.cons rfl fun K_ hK_ => ?_
    simp (config := { decide := true }) only [WOne, calleeOf, axOp, ev, keep, okk_some, put, getD_self, getD_ne, List.length_set, hl]
    refine hK_ _ ?_
    clear hK_
    refine WOps.cons rfl fun K_ hK_ => ?_
    simp (config := { decide := true }) only [WOne, calleeOf, axOp, ev, evs, okk_some, put, getD_self, List.length_set, et_P, hl, fun H => (fy H).1]
    refine hK_ _ ?_
    clear hK_
    refine WOps.cons rfl fun K_ hK_ => ?_
    simp (config := { decide := true }) only [WOne, calleeOf, axOp, ev, keep, okk_some, put, if_true, getD_self, getD_ne, List.length_set, binA, intOp, hl]
    refine hK_ _ ?_
    clear hK_
    refine WOps.cons rfl fun K_ hK_ => ?_
    simp (config := { decide := true }) only [WOne, calleeOf, axOp, ev, keep, okk_some, put, getD_self, List.length_set, hl]
    refine hK_ _ ?_
    clear hK_
    simp only [WOps]
    refine hK _ ?_
    clear hK
    by_cases hlt : lx < ly
    · have hb2 : ((lx : Int) < (ly : Int)) = True := by simp [hlt]
      refine W.cond (b := true) (by simp (config := { decide := true }) only [ev, getD_self, List.length_set, decide_true, hl, hb2]) (fun _ => ?_) (fun h => by simp at h)
      refine W.seqk fun K hK => W.region ?_
      refine WOps.cons rfl fun K_ hK_ => ?_
      simp (config := { decide := true }) only [WOne, calleeOf, axOp, ev, keep, okk_some, put, ofValue]
      refine hK_ _ ?_
      clear hK_
      simp only [WOps]
      refine hK _ ?_
      clear hK
      refine W.ret ⟨.inr rfl, .int .i64 (-1), ?_, _, [], rfl, _, rfl⟩
      simp (config := { decide := true }) only [getD_self, List.length_set, resultsA, Tryz.results231, resultsL, hl]
    · have hb2 : ((lx : Int) < (ly : Int)) = False := by simp; omega
      refine W.cond (b := false) (by simp (config := { decide := true }) only [ev, getD_self, List.length_set, decide_false, hl, hb2]) (fun h => by simp at h) (fun _ => W.skip ?_)
      simp only [outOf, Th]
      refine hKs _ ?_
      clear hKs
      have hxy : lx = ly := by omega
      refine W.seqk fun K1 hK1 => ?_
      refine W.seqk fun K hK => W.region ?_
      refine WOps.cons rfl fun K_ hK_ => ?_
      simp (config := { decide := true }) only [WOne, calleeOf, axOp, ev, keep, okk_some, put, getD_self, getD_ne, List.length_set, hl]
      refine hK_ _ ?_
      clear hK_
      refine WOps.cons rfl fun K_ hK_ => ?_
      simp (config := { decide := true }) only [WOne, calleeOf, axOp, ev, evs, okk_some, put, getD_self, List.length_set, et_P, hl, fun H => (fx H).1]
      refine hK_ _ ?_
      clear hK_
      have hw0 : IntKind.i64.wrap ((lx : Int) - 1) = (lx : Int) - 1 := by rw [wrapN] <;> omega
      refine WOps.cons rfl fun K_ hK_ => ?_
      simp (config := { decide := true }) only [WOne, calleeOf, axOp, ev, keep, okk_some, put, if_true, ofValue, getD_self, List.length_set, binA, intOp, hl, hw0]
      refine hK_ _ ?_
      clear hK_
      refine WOps.cons rfl fun K_ hK_ => ?_
      simp (config := { decide := true }) only [WOne, calleeOf, axOp, ev, keep, okk_some, put, getD_self, List.length_set, hl]
      refine hK_ _ ?_
      clear hK_
      simp only [WOps]
      refine hK _ ?_
      clear hK
      refine W.block (W.loop (fun n s => s.H = [] ∧ s.T.length = 47 ∧ s.T.getD 0 .undef = x ∧ s.T.getD 1 .undef = y ∧ s.T.getD 5 .undef = .int .i64 ((n : Int) - 1) ∧ n ≤ lx) (n := lx) ?_ ?_)
      · refine ⟨rfl, ?_, ?_, ?_, ?_, Nat.le_refl _⟩ <;> simp (config := { decide := true }) only [getD_self, getD_ne, List.length_set, hl]
      · rintro n ⟨T', H'⟩ ⟨rfl, hl', h0', h1', h5', hn⟩
        simp only at hl' h0' h1' h5'
        refine W.seqk fun K2 hK2 => ?_
        cases n with
        | zero =>
          have hb3 : (((0 : Nat) : Int) - 1 ≥ 0) = False := by simp
          refine W.seqk fun K hK => W.region ?_
          refine WOps.cons rfl fun K_ hK_ => ?_
          simp (config := { decide := true }) only [WOne, calleeOf, axOp, ev, keep, okk_some, put, h5']
          refine hK_ _ ?_
          clear hK_
          refine WOps.cons rfl fun K_ hK_ => ?_
          simp (config := { decide := true }) only [WOne, calleeOf, axOp, ev, keep, okk_some, put, if_true, ofValue, getD_self, binA, intOp, decide_false, hl']
          refine hK_ _ ?_
          clear hK_
          simp only [WOps]
          refine hK _ ?_
          clear hK
          refine W.cond (b := false) (by simp (config := { decide := true }) only [ev, getD_self, List.length_set, hl']) (fun h => by simp at h) (fun _ => W.exit ?_)
          simp only [Th, outOf, if_true]
          refine hK1 _ ?_
          clear hK1 hK2
          refine W.seqk fun K hK => W.region ?_
          refine WOps.cons rfl fun K_ hK_ => ?_
          simp (config := { decide := true }) only [WOne, calleeOf, axOp, ev, keep, okk_some, put, ofValue]
          refine hK_ _ ?_
          clear hK_
          simp only [WOps]
          refine hK _ ?_
          clear hK
          refine W.ret ⟨.inr rfl, .int .i64 0, ?_, _, [], rfl, _, rfl⟩
          simp (config := { decide := true }) only [getD_self, List.length_set, resultsA, Tryz.results231, resultsL, hl']
        | succ n =>
          have hb3 : (((n + 1 : Nat) : Int) - 1 ≥ 0) = True := by simp only [eq_iff_iff, iff_true]; omega
          have hi0 : (((n + 1 : Nat) : Int) - 1) = (n : Int) := by omega
          rw [hi0] at h5' hb3
          obtain ⟨px, yx, ix, lx1⟩ := (fx []).2 n (by omega)
          obtain ⟨py, yy, iy, ly1⟩ := (fy []).2 n (by omega)
          have hw1 : IntKind.i64.wrap ((n : Int) - 1) = (n : Int) - 1 := by rw [wrapN] <;> omega
          refine W.seqk fun K hK => W.region ?_
          refine WOps.cons rfl fun K_ hK_ => ?_
          simp (config := { decide := true }) only [WOne, calleeOf, axOp, ev, keep, okk_some, put, h5']
          refine hK_ _ ?_
          clear hK_
          refine WOps.cons rfl fun K_ hK_ => ?_
          simp (config := { decide := true }) only [WOne, calleeOf, axOp, ev, keep, okk_some, put, if_true, ofValue, getD_self, binA, intOp, decide_true, hl', hb3]
          refine hK_ _ ?_
          clear hK_
          simp only [WOps]
          refine hK _ ?_
          clear hK
          refine W.cond (b := true) (by simp (config := { decide := true }) only [ev, getD_self, List.length_set, hl']) (fun _ => ?_) (fun h => by simp at h)
          refine W.skip (hK2 _ ?_)
          clear hK2
          refine W.seqk fun K2 hK2 => W.block ?_
          refine W.seqk fun K3 hK3 => W.seqk fun K hK => W.regiond rfl ?_
          refine WOps.cons rfl fun K_ hK_ => ?_
          simp (config := { decide := true }) only [WOne, calleeOf, axOp, ev, keep, okk_some, put, getD_ne, h0']
          refine hK_ _ ?_
          clear hK_
          refine WOps.cons rfl fun K_ hK_ => ?_
          simp (config := { decide := true }) only [WOne, calleeOf, axOp, ev, keep, okk_some, put, getD_ne, h5']
          refine hK_ _ ?_
          clear hK_
          refine WOps.cons rfl fun K_ hK_ => ?_
          simp (config := { decide := true }) only [WOne, calleeOf, axOp, ev, keep, okk_some, put, getD_self, getD_ne, List.length_set, Option.bind_some, et_P, hl', asNat_nat, ix]
          refine hK_ _ ?_
          clear hK_
          refine WOps.cons rfl fun K_ hK_ => ?_
          simp (config := { decide := true }) only [WOne, calleeOf, axOp, ev, keep, okk_some, put, getD_self, List.length_set, et_P, hl', lx1]
          refine hK_ _ ?_
          clear hK_
          refine WOps.cons rfl fun K_ hK_ => ?_
          simp (config := { decide := true }) only [WOne, calleeOf, axOp, ev, keep, okk_some, put, getD_ne, h1']
          refine hK_ _ ?_
          clear hK_
          refine WOps.cons rfl fun K_ hK_ => ?_
          simp (config := { decide := true }) only [WOne, calleeOf, axOp, ev, keep, okk_some, put, getD_ne, h5']
          refine hK_ _ ?_
          clear hK_
          refine WOps.cons rfl fun K_ hK_ => ?_
          simp (config := { decide := true }) only [WOne, calleeOf, axOp, ev, keep, okk_some, put, getD_self, getD_ne, List.length_set, Option.bind_some, et_P, hl', asNat_nat, iy]
          refine hK_ _ ?_
          clear hK_
          refine WOps.cons rfl fun K_ hK_ => ?_
          simp (config := { decide := true }) only [WOne, calleeOf, axOp, ev, keep, okk_some, put, getD_self, List.length_set, et_P, hl', ly1]
          refine hK_ _ ?_
          clear hK_
          refine WOps.cons rfl fun K_ hK_ => ?_
          simp (config := { decide := true }) only [WOne, calleeOf, axOp, ev, keep, okk_some, put, if_true, getD_self, getD_ne, List.length_set, binA, intOp, hl']
          refine hK_ _ ?_
          clear hK_
          simp only [WOps]
          refine hK _ ?_
          clear hK
          by_cases hc : yx > yy
          · refine W.cond (b := true) (by simp (config := { decide := true }) only [ev, getD_self, List.length_set, decide_true, hl', hc]) (fun _ => ?_) (fun h => by simp at h)
            refine W.seqk fun K hK => W.region ?_
            refine WOps.cons rfl fun K_ hK_ => ?_
            simp (config := { decide := true }) only [WOne, calleeOf, axOp, ev, keep, okk_some, put, ofValue]
            refine hK_ _ ?_
            clear hK_
            simp only [WOps]
            refine hK _ ?_
            clear hK
            refine W.ret ⟨.inr rfl, .int .i64 1, ?_, _, [], rfl, _, rfl⟩
            simp (config := { decide := true }) only [getD_self, List.length_set, resultsA, Tryz.results231, resultsL, hl']
          · refine W.cond (b := false) (by simp (config := { decide := true }) only [ev, getD_self, List.length_set, decide_false, hl', hc]) (fun h => by simp at h) (fun _ => W.skip ?_)
            simp only [Th]
            refine hK3 _ ?_
            clear hK3
            refine W.seqk fun K hK => W.regiond rfl ?_
            refine WOps.cons rfl fun K_ hK_ => ?_
            simp (config := { decide := true }) only [WOne, calleeOf, axOp, ev, keep, okk_some, put, getD_ne, h0']
            refine hK_ _ ?_
            clear hK_
            refine WOps.cons rfl fun K_ hK_ => ?_
            simp (config := { decide := true }) only [WOne, calleeOf, axOp, ev, keep, okk_some, put, getD_ne, h5']
            refine hK_ _ ?_
            clear hK_
            refine WOps.cons rfl fun K_ hK_ => ?_
            simp (config := { decide := true }) only [WOne, calleeOf, axOp, ev, keep, okk_some, put, getD_self, getD_ne, List.length_set, Option.bind_some, et_P, hl', asNat_nat, ix]
            refine hK_ _ ?_
            clear hK_
            refine WOps.cons rfl fun K_ hK_ => ?_
            simp (config := { decide := true }) only [WOne, calleeOf, axOp, ev, keep, okk_some, put, getD_self, List.length_set, et_P, hl', lx1]
            refine hK_ _ ?_
            clear hK_
            refine WOps.cons rfl fun K_ hK_ => ?_
            simp (config := { decide := true }) only [WOne, calleeOf, axOp, ev, keep, okk_some, put, getD_ne, h1']
            refine hK_ _ ?_
            clear hK_
            refine WOps.cons rfl fun K_ hK_ => ?_
            simp (config := { decide := true }) only [WOne, calleeOf, axOp, ev, keep, okk_some, put, getD_ne, h5']
            refine hK_ _ ?_
            clear hK_
            refine WOps.cons rfl fun K_ hK_ => ?_
            simp (config := { decide := true }) only [WOne, calleeOf, axOp, ev, keep, okk_some, put, getD_self, getD_ne, List.length_set, Option.bind_some, et_P, hl', asNat_nat, iy]
            refine hK_ _ ?_
            clear hK_
            refine WOps.cons rfl fun K_ hK_ => ?_
            simp (config := { decide := true }) only [WOne, calleeOf, axOp, ev, keep, okk_some, put, getD_self, List.length_set, et_P, hl', ly1]
            refine hK_ _ ?_
            clear hK_
            refine WOps.cons rfl fun K_ hK_ => ?_
            simp (config := { decide := true }) only [WOne, calleeOf, axOp, ev, keep, okk_some, put, if_true, getD_self, getD_ne, List.length_set, binA, intOp, hl']
            refine hK_ _ ?_
            clear hK_
            simp only [WOps]
            refine hK _ ?_
            clear hK
            by_cases hc2 : yx < yy
            · refine W.cond (b := true) (by simp (config := { decide := true }) only [ev, getD_self, List.length_set, decide_true, hl', hc2]) (fun _ => ?_) (fun h => by simp at h)
              refine W.seqk fun K hK => W.region ?_
              refine WOps.cons rfl fun K_ hK_ => ?_
              simp (config := { decide := true }) only [WOne, calleeOf, axOp, ev, keep, okk_some, put, ofValue]
              refine hK_ _ ?_
              clear hK_
              simp only [WOps]
              refine hK _ ?_
              clear hK
              refine W.ret ⟨.inr rfl, .int .i64 (-1), ?_, _, [], rfl, _, rfl⟩
              simp (config := { decide := true }) only [getD_self, List.length_set, resultsA, Tryz.results231, resultsL, hl']
            · refine W.cond (b := false) (by simp (config := { decide := true }) only [ev, getD_self, List.length_set, decide_false, hl', hc2]) (fun h => by simp at h) (fun _ => W.skip ?_)
              simp only [Th, outOf]
              refine hK2 _ (W.region ?_)
              clear hK2
              refine WOps.cons rfl fun K_ hK_ => ?_
              simp (config := { decide := true }) only [WOne, calleeOf, axOp, ev, keep, okk_some, put, getD_ne, h5']
              refine hK_ _ ?_
              clear hK_
              refine WOps.cons rfl fun K_ hK_ => ?_
              simp (config := { decide := true }) only [WOne, calleeOf, axOp, ev, keep, okk_some, put, if_true, ofValue, getD_self, List.length_set, binA, intOp, hl', hw1]
              refine hK_ _ ?_
              clear hK_
              refine WOps.cons rfl fun K_ hK_ => ?_
              simp (config := { decide := true }) only [WOne, calleeOf, axOp, ev, keep, okk_some, put, getD_self, List.length_set, hl']
              refine hK_ _ ?_
              clear hK_
              simp only [WOps, Th]
              refine ⟨n, Nat.lt_succ_self n, by trivial, ?_, ?_, ?_, ?_, by omega⟩ <;> simp (config := { decide := true }) only [getD_self, getD_ne, List.length_set, hl', h0', h1']

theorem view_nvb {k : Nat} {a : AV} (h : NV k a) (b : Bool) (H : Heap) : view H depthA (.tup [a, .bool b]) = some (.tup [a, .bool b], []) := by
  rcases h with rfl | ⟨cells, len, cap, rfl, _⟩ <;> rfl

theorem sub_con (a b : AV) (k : Nat) (ha : NV k a) (hb : NV k b) (hk : k ≤ 2 ^ 39) : Con 212 [a, b] (fun r => ∃ x b, r = .tup [x, .bool b] ∧ NV k x) := by
  refine con_of Tryz.func212 rfl ?_
  show W ET _ _ ⟨[a, b] ++ List.replicate 48 .undef, []⟩
  generalize hT : [a, b] ++ List.replicate 48 AV.undef = T
  have hl : T.length = 50 := by subst hT; rfl
  have h0 : T.getD 0 .undef = a := by subst hT; rfl
  have h1 : T.getD 1 .undef = b := by subst hT; rfl
  clear hT
  have hab : ∀ H, viewL (view H depthA) [a, b] = some ([a, b], []) := fun H => viewL_two (view_nv ha H) (view_nv hb H)
  refine W.seqk fun K hK => W.region ?_
  refine WOps.cons rfl fun K_ hK_ => ?_
  simp (config := { decide := true }) only [WOne, calleeOf, axOp, ev, keep, okk_some, put, ofValue]
  refine hK_ _ ?_
  clear hK_
  refine WOps.cons rfl fun K_ hK_ => ?_
  simp (config := { decide := true }) only [WOne, calleeOf, axOp, ev, keep, okk_some, put, ofValue]
  refine hK_ _ ?_
  clear hK_
  simp only [WOps]
  refine hK _ ?_
  clear hK
  refine W.seqk fun Ks hKs => ?_
  refine W.seqk fun K hK => W.region ?_
  refine WOps.cons rfl fun K_ hK_ => ?_
  simp (config := { decide := true }) only [WOne, calleeOf, axOp, ev, keep, okk_some, put, getD_ne, h0]
  refine hK_ _ ?_
  clear hK_
  refine WOps.cons rfl fun K_ hK_ => ?_
  simp (config := { decide := true }) only [WOne, calleeOf, axOp, ev, keep, okk_some, put, getD_ne, h1]
  refine hK_ _ ?_
  clear hK_
  refine WOps.cons rfl fun K_ hK_ => ?_
  simp (config := { decide := true }) only [WOne, calleeOf, ev, evs, put, getD_self, getD_ne, List.length_set, hl]
  refine call_known (by decide) (hab _) (cmp_con a b k ha hb hk) fun c hc => ?_
  simp only [AX.kill]
  refine hK_ _ ?_
  clear hK_
  obtain ⟨cv, rfl⟩ := hc
  refine WOps.cons rfl fun K_ hK_ => ?_
  simp (config := { decide := true }) only [WOne, calleeOf, axOp, ev, keep, okk_some, put, if_true, ofValue, getD_self, List.length_set, binA, intOp, hl]
  refine hK_ _ ?_
  clear hK_
  simp only [WOps]
  refine hK _ ?_
  clear hK
  by_cases hneg : cv < 0
  · refine W.cond (b := true) (by simp (config := { decide := true }) only [ev, getD_self, List.length_set, decide_true, hl, hneg]) (fun _ => ?_) (fun h => by simp at h)
    refine W.seqk fun K hK => W.region ?_
    refine WOps.cons rfl fun K_ hK_ => ?_
    simp (config := { decide := true }) only [WOne, calleeOf, axOp, ev, keep, okk_some, put, ofValue]
    refine hK_ _ ?_
    clear hK_
    refine WOps.cons rfl fun K_ hK_ => ?_
    simp (config := { decide := true }) only [WOne, calleeOf, axOp, ev, keep, okk_some, put, ofValue]
    refine hK_ _ ?_
    clear hK_
    simp only [WOps]
    refine hK _ ?_
    clear hK
    refine W.ret ⟨.inr rfl, .tup [.nilsl, .bool false], ?_, _, [], rfl, _, _, rfl, .inl rfl⟩
    simp (config := { decide := true }) only [getD_self, getD_ne, List.length_set, resultsA, Tryz.results212, resultsL, hl]
  refine W.cond (b := false) (by simp (config := { decide := true }) only [ev, getD_self, List.length_set, decide_false, hl, hneg]) (fun h => by simp at h) (fun _ => W.skip ?_)
  simp only [Th]
  refine hKs _ ?_
  clear hKs
  refine W.seqk fun K hK => W.region ?_
  refine WOps.cons rfl fun K_ hK_ => ?_
  simp (config := { decide := true }) only [WOne, calleeOf, axOp, ev, keep, okk_some, put, getD_ne, h0]
  refine hK_ _ ?_
  clear hK_
  refine WOps.cons rfl fun K_ hK_ => ?_
  simp (config := { decide := true }) only [WOne, calleeOf, ev, evs, put, getD_self, List.length_set, hl]
  refine call_known (by decide) (viewL_nv ha) (trim_con a k ha (by omega)) fun x hx => ?_
  simp only [AX.kill]
  refine hK_ _ ?_
  clear hK_
  have hx' : NV k x := hx k ha
  refine WOps.cons rfl fun K_ hK_ => ?_
  simp (config := { decide := true }) only [WOne, calleeOf, axOp, ev, keep, okk_some, put, getD_ne, h1]
  refine hK_ _ ?_
  clear hK_
  refine WOps.cons rfl fun K_ hK_ => ?_
  simp (config := { decide := true }) only [WOne, calleeOf, ev, evs, put, getD_self, List.length_set, hl]
  refine call_known (by decide) (viewL_nv hb) (trim_con b k hb (by omega)) fun y hy => ?_
  simp only [AX.kill]
  refine hK_ _ ?_
  clear hK_
  have hy' : NV k y := hy k hb
  refine WOps.cons rfl fun K_ hK_ => ?_
  simp (config := { decide := true }) only [WOne, calleeOf, axOp, ev, keep, okk_some, put, getD_self, getD_ne, List.length_set, hl]
  refine hK_ _ ?_
  clear hK_
  refine WOps.cons rfl fun K_ hK_ => ?_
  simp (config := { decide := true }) only [WOne, calleeOf, axOp, ev, keep, okk_some, put, getD_self, getD_ne, List.length_set, hl]
  refine hK_ _ ?_
  clear hK_
  simp only [WOps]
  refine hK _ ?_
  clear hK
  obtain ⟨lx, hlx, fx⟩ := nv_len hx'
  obtain ⟨ly, hly, fy⟩ := nv_len hy'
  have hroom : (lx * 4 ≤ roomA) = True := by simp only [eq_iff_iff, iff_true]; unfold roomA; omega
  refine W.seqk fun K hK => W.region ?_
  refine WOps.cons rfl fun K_ hK_ => ?_
  simp (config := { decide := true }) only [WOne, calleeOf, axOp, ev, keep, okk_some, put, getD_self, getD_ne, List.length_set, hl]
  refine hK_ _ ?_
  clear hK_
  refine WOps.cons rfl fun K_ hK_ => ?_
  simp (config := { decide := true }) only [WOne, calleeOf, axOp, ev, evs, okk_some, put, getD_self, List.length_set, et_P, hl, fun H => (fx H).1]
  refine hK_ _ ?_
  clear hK_
  refine WOps.cons rfl fun K_ hK_ => ?_
  simp (config := { decide := true }) only [WOne, calleeOf, axOp, ev, okk_some, put, if_true, getD_self, List.length_set, P24, size198, et_P, decide_true, hl, asNat_nat, bytes198, zero198, hroom, AV.cells, oneCell, List.all_cons, List.all_nil, Nat.le_refl, Bool.and_self, List.length_nil, List.nil_append]
  refine hK_ _ ?_
  clear hK_
  obtain ⟨cw1, cw2⟩ := copies_words lx
  generalize copies lx [AV.int .u32 0] = cs at cw1 cw2 ⊢
  refine WOps.cons rfl fun K_ hK_ => ?_
  simp (config := { decide := true }) only [WOne, calleeOf, axOp, ev, keep, okk_some, put, getD_self, List.length_set, hl]
  refine hK_ _ ?_
  clear hK_
  simp only [WOps]
  refine hK _ ?_
  clear hK
  refine W.seqk fun K hK => W.region ?_
  refine WOps.cons rfl fun K_ hK_ => ?_
  simp (config := { decide := true }) only [WOne, calleeOf, axOp, ev, keep, okk_some, put, ofValue]
  refine hK_ _ ?_
  clear hK_
  simp only [WOps]
  refine hK _ ?_
  clear hK
  refine W.seqk fun K1 hK1 => ?_
  refine W.seqk fun K hK => W.region ?_
  refine WOps.cons rfl fun K_ hK_ => ?_
  simp (config := { decide := true }) only [WOne, calleeOf, axOp, ev, keep, okk_some, put, getD_self, getD_ne, List.length_set, hl]
  refine hK_ _ ?_
  clear hK_
  refine WOps.cons rfl fun K_ hK_ => ?_
  simp (config := { decide := true }) only [WOne, calleeOf, axOp, ev, evs, okk_some, put, getD_self, List.length_set, et_P, hl, fun H => (fx H).1]
  refine hK_ _ ?_
  clear hK_
  refine WOps.cons rfl fun K_ hK_ => ?_
  simp (config := { decide := true }) only [WOne, calleeOf, axOp, ev, keep, okk_some, put, ofValue]
  refine hK_ _ ?_
  clear hK_
  simp only [WOps]
  refine hK _ ?_
  clear hK
  refine W.block (W.loop (fun n s => ∃ cs c, s.H = [.cells cs] ∧ cs.length = lx ∧ (∀ c ∈ cs, ∃ y, c = .int .u32 y) ∧ s.T.length = 50 ∧ s.T.getD 1 .undef = y ∧ s.T.getD 6 .undef = .sl 0 0 lx 1 (some lx) ∧ s.T.getD 7 .undef = .int .u32 c ∧ s.T.getD 22 .undef = x ∧ s.T.getD 23 .undef = .int .i64 lx ∧ ∃ i : Nat, i + n = lx ∧ s.T.getD 24 .undef = .int .i64 i) (n := lx) ?_ ?_)
  · refine ⟨cs, 0, rfl, cw1, cw2, ?_, ?_, ?_, ?_, ?_, ?_, 0, Nat.zero_add _, ?_⟩ <;> simp (config := { decide := true }) only [getD_self, getD_ne, List.length_set, hl, Int.natCast_zero]
  · clear hl h0 h1 cw1 cw2
    rintro n ⟨T', H'⟩ ⟨cs, c, rfl, cw1, cw2, hl', h1', h6', h7', h22, h23, i, hin, h24⟩
    simp only at hl' h1' h6' h7' h22 h23 h24
    by_cases hlt : i < lx
    · have hb1 : ((i : Int) < (lx : Int)) = True := by simp [hlt]
      obtain ⟨px, yx, ix, lx1⟩ := (fx []).2 i hlt
      have hw1 : IntKind.i64.wrap ((i : Int) + 1) = ((i + 1 : Nat) : Int) := by rw [wrapN] <;> omega
      refine W.seqk fun K hK => W.region ?_
      refine WOps.cons rfl fun K_ hK_ => ?_
      simp (config := { decide := true }) only [WOne, calleeOf, axOp, ev, keep, okk_some, put, if_true, binA, intOp, decide_true, h24, h23, hb1]
      refine hK_ _ ?_
      clear hK_
      simp only [WOps]
      refine hK _ ?_
      clear hK
      refine W.seqk fun K hK => W.cond (b := true) (by simp (config := { decide := true }) only [ev, getD_self, hl']) (fun _ => ?_) (fun h => by simp at h)
      refine W.skip (hK _ ?_)
      clear hK
      refine W.seqk fun K2 hK2 => W.block ?_
      refine W.seqk fun K hK => W.region ?_
      refine WOps.cons rfl fun K_ hK_ => ?_
      simp (config := { decide := true }) only [WOne, calleeOf, axOp, ev, keep, okk_some, put, getD_ne, h24]
      refine hK_ _ ?_
      clear hK_
      refine WOps.cons rfl fun K_ hK_ => ?_
      simp (config := { decide := true }) only [WOne, calleeOf, axOp, ev, keep, okk_some, put, getD_ne, Option.bind_some, et_P, h22, h24, asNat_nat, ix]
      refine hK_ _ ?_
      clear hK_
      refine WOps.cons rfl fun K_ hK_ => ?_
      simp (config := { decide := true }) only [WOne, calleeOf, axOp, ev, keep, okk_some, put, getD_self, List.length_set, et_P, hl', lx1]
      refine hK_ _ ?_
      clear hK_
      refine WOps.cons rfl fun K_ hK_ => ?_
      simp (config := { decide := true }) only [WOne, calleeOf, axOp, ev, keep, okk_some, put, getD_self, getD_ne, List.length_set, hl']
      refine hK_ _ ?_
      clear hK_
      refine WOps.cons rfl fun K_ hK_ => ?_
      simp (config := { decide := true }) only [WOne, calleeOf, axOp, ev, keep, okk_some, put, getD_self, getD_ne, List.length_set, hl']
      refine hK_ _ ?_
      clear hK_
      simp only [WOps]
      refine hK _ ?_
      clear hK
      refine W.seqk fun K hK => W.region ?_
      refine WOps.cons rfl fun K_ hK_ => ?_
      simp (config := { decide := true }) only [WOne, calleeOf, axOp, ev, keep, okk_some, put, ofValue]
      refine hK_ _ ?_
      clear hK_
      simp only [WOps]
      refine hK _ ?_
      clear hK
      refine W.seqk fun K3 hK3 => ?_
      refine W.seqk fun K hK => W.region ?_
      refine WOps.cons rfl fun K_ hK_ => ?_
      simp (config := { decide := true }) only [WOne, calleeOf, axOp, ev, keep, okk_some, put, getD_self, getD_ne, List.length_set, hl']
      refine hK_ _ ?_
      clear hK_
      refine WOps.cons rfl fun K_ hK_ => ?_
      simp (config := { decide := true }) only [WOne, calleeOf, axOp, ev, keep, okk_some, put, getD_ne, h1']
      refine hK_ _ ?_
      clear hK_
      refine WOps.cons rfl fun K_ hK_ => ?_
      simp (config := { decide := true }) only [WOne, calleeOf, axOp, ev, evs, okk_some, put, getD_self, List.length_set, et_P, hl', fun H => (fy H).1]
      refine hK_ _ ?_
      clear hK_
      refine WOps.cons rfl fun K_ hK_ => ?_
      simp (config := { decide := true }) only [WOne, calleeOf, axOp, ev, keep, okk_some, put, if_true, getD_self, getD_ne, List.length_set, binA, intOp, hl']
      refine hK_ _ ?_
      clear hK_
      simp only [WOps]
      refine hK _ ?_
      clear hK
      have fin : ∀ (T1 : List AV) (z : Int), T1.length = 50 → T1.getD 1 .undef = y → T1.getD 6 .undef = .sl 0 0 lx 1 (some lx) → T1.getD 7 .undef = .int .u32 c → T1.getD 8 .undef = .int .i64 i → T1.getD 9 .undef = .int .u32 yx → T1.getD 10 .undef = .int .u32 z → T1.getD 22 .undef = x → T1.getD 23 .undef = .int .i64 lx → T1.getD 24 .undef = .int .i64 i → K3 ⟨T1, [.cells cs]⟩ := by
        clear hl' h1' h6' h7' h22 h23 h24
        intro T1 z hl' h1' h6' h7' h8' h9' h10' h22 h23 h24
        refine hK3 _ (W.region ?_)
        clear hK3
        refine WOps.cons rfl fun K_ hK_ => ?_
        simp (config := { decide := true }) only [WOne, calleeOf, axOp, ev, keep, okk_some, put, h6']
        refine hK_ _ ?_
        clear hK_
        refine WOps.cons rfl fun K_ hK_ => ?_
        simp (config := { decide := true }) only [WOne, calleeOf, axOp, ev, keep, okk_some, put, getD_ne, h8']
        refine hK_ _ ?_
        clear hK_
        refine WOps.cons rfl fun K_ hK_ => ?_
        simp (config := { decide := true }) only [WOne, calleeOf, axOp, ev, keep, okk_some, put, getD_ne, h9']
        refine hK_ _ ?_
        clear hK_
        refine WOps.cons rfl fun K_ hK_ => ?_
        simp (config := { decide := true }) only [WOne, calleeOf, axOp, ev, keep, okk_some, put, getD_ne, h10']
        refine hK_ _ ?_
        clear hK_
        refine WOps.cons rfl fun K_ hK_ => ?_
        simp (config := { decide := true }) only [WOne, calleeOf, axOp, ev, keep, okk_some, put, getD_ne, h7']
        refine hK_ _ ?_
        clear hK_
        refine WOps.cons rfl fun K_ hK_ => ?_
        simp (config := { decide := true }) only [WOne, calleeOf, ev, evs, put, getD_self, getD_ne, List.length_set, hl']
        refine call_known (by decide) (viewL_words (n := 39) _ (by simp)) (sub32_con yx z c) fun r hr => ?_
        simp only [AX.kill]
        refine hK_ _ ?_
        clear hK_
        obtain ⟨s1, c1, rfl⟩ := hr
        obtain ⟨cs1, st1, w1, w2⟩ := store_own (H := [.cells cs]) (id := 0) (off := 0 + i) (cs := cs) rfl (by omega) s1 cw2
        refine WOps.cons rfl fun K_ hK_ => ?_
        simp (config := { decide := true }) only [WOne, calleeOf, axOp, ev, keep, okk_some, put, getD_self, List.length_set, hl']
        refine hK_ _ ?_
        clear hK_
        refine WOps.cons rfl fun K_ hK_ => ?_
        simp (config := { decide := true }) only [WOne, List.getElem?_cons_zero, calleeOf, axOp, ev, keep, okk_some, put, getD_self, List.length_set, hl']
        refine hK_ _ ?_
        clear hK_
        refine WOps.cons rfl fun K_ hK_ => ?_
        simp (config := { decide := true }) only [WOne, List.getElem?_cons_zero, List.getElem?_cons_succ, calleeOf, axOp, ev, keep, okk_some, put, getD_self, getD_ne, List.length_set, hl']
        refine hK_ _ ?_
        clear hK_
        refine WOps.cons rfl fun K_ hK_ => ?_
        simp (config := { decide := true }) only [WOne, calleeOf, axOp, ev, keep, okk_some, put, getD_self, getD_ne, List.length_set, Option.bind_some, et_P, hl', asNat_nat, index_own (id := 0) (off := 0) (sz := 1) (cap := some lx) hlt]
        refine hK_ _ ?_
        clear hK_
        refine WOps.cons rfl fun K_ hK_ => ?_
        simp (config := { decide := true }) only [WOne, calleeOf, axOp, ev, okk_some, put, getD_self, getD_ne, List.length_set, et_P, hl', st1]
        refine hK_ _ ?_
        clear hK_
        refine WOps.cons rfl fun K_ hK_ => ?_
        simp (config := { decide := true }) only [WOne, calleeOf, axOp, ev, keep, okk_some, put, getD_self, getD_ne, List.length_set, hl']
        refine hK_ _ ?_
        clear hK_
        simp only [WOps, Th, outOf]
        refine hK2 _ (W.region ?_)
        clear hK2
        refine WOps.cons rfl fun K_ hK_ => ?_
        simp (config := { decide := true }) only [WOne, calleeOf, axOp, ev, keep, okk_some, put, if_true, ofValue, getD_ne, binA, intOp, h24, hw1]
        refine hK_ _ ?_
        clear hK_
        refine WOps.cons rfl fun K_ hK_ => ?_
        simp (config := { decide := true }) only [WOne, calleeOf, axOp, ev, keep, okk_some, put, getD_self, List.length_set, hl']
        refine hK_ _ ?_
        clear hK_
        simp only [WOps, Th]
        refine ⟨lx - (i + 1), by omega, cs1, c1, by simp, by omega, w2, ?_, ?_, ?_, ?_, ?_, ?_, i + 1, by omega, ?_⟩ <;> simp (config := { decide := true }) only [getD_self, getD_ne, List.length_set, hl', h1', h6', h22, h23]
      by_cases hy2 : i < ly
      · have hb2 : ((i : Int) < (ly : Int)) = True := by simp [hy2]
        obtain ⟨py, yy, iy, ly1⟩ := (fy []).2 i hy2
        refine W.cond (b := true) (by simp (config := { decide := true }) only [ev, getD_self, List.length_set, decide_true, hl', hb2]) (fun _ => W.region ?_) (fun h => by simp at h)
        refine WOps.cons rfl fun K_ hK_ => ?_
        simp (config := { decide := true }) only [WOne, calleeOf, axOp, ev, keep, okk_some, put, getD_ne, h1']
        refine hK_ _ ?_
        clear hK_
        refine WOps.cons rfl fun K_ hK_ => ?_
        simp (config := { decide := true }) only [WOne, calleeOf, axOp, ev, keep, okk_some, put, getD_self, getD_ne, List.length_set, hl']
        refine hK_ _ ?_
        clear hK_
        refine WOps.cons rfl fun K_ hK_ => ?_
        simp (config := { decide := true }) only [WOne, calleeOf, axOp, ev, keep, okk_some, put, getD_self, getD_ne, List.length_set, Option.bind_some, et_P, hl', asNat_nat, iy]
        refine hK_ _ ?_
        clear hK_
        refine WOps.cons rfl fun K_ hK_ => ?_
        simp (config := { decide := true }) only [WOne, calleeOf, axOp, ev, keep, okk_some, put, getD_self, List.length_set, et_P, hl', ly1]
        refine hK_ _ ?_
        clear hK_
        refine WOps.cons rfl fun K_ hK_ => ?_
        simp (config := { decide := true }) only [WOne, calleeOf, axOp, ev, keep, okk_some, put, getD_self, List.length_set, hl']
        refine hK_ _ ?_
        clear hK_
        simp only [WOps, Th]
        refine fin _ yy ?_ ?_ ?_ ?_ ?_ ?_ ?_ ?_ ?_ ?_ <;> simp (config := { decide := true }) only [getD_self, getD_ne, List.length_set, hl', h1', h6', h7', h22, h23, h24]
      · have hb2 : ((i : Int) < (ly : Int)) = False := by simp; omega
        refine W.cond (b := false) (by simp (config := { decide := true }) only [ev, getD_self, List.length_set, decide_false, hl', hb2]) (fun h => by simp at h) (fun _ => W.skip ?_)
        simp only [Th]
        refine fin _ 0 ?_ ?_ ?_ ?_ ?_ ?_ ?_ ?_ ?_ ?_ <;> simp (config := { decide := true }) only [getD_self, getD_ne, List.length_set, hl', h1', h6', h7', h22, h23, h24]
    · have hb1 : ((i : Int) < (lx : Int)) = False := by simp; omega
      refine W.seqk fun K hK => W.region ?_
      refine WOps.cons rfl fun K_ hK_ => ?_
      simp (config := { decide := true }) only [WOne, calleeOf, axOp, ev, keep, okk_some, put, if_true, binA, intOp, decide_false, h24, h23, hb1]
      refine hK_ _ ?_
      clear hK_
      simp only [WOps]
      refine hK _ ?_
      clear hK
      refine W.seqk fun K hK => W.cond (b := false) (by simp (config := { decide := true }) only [ev, getD_self, hl']) (fun h => by simp at h) (fun _ => W.exit ?_)
      simp only [Th, outOf, if_true]
      refine hK1 _ ?_
      clear hK1
      refine W.seqk fun K hK => W.region ?_
      refine WOps.cons rfl fun K_ hK_ => ?_
      simp (config := { decide := true }) only [WOne, calleeOf, axOp, ev, keep, okk_some, put, getD_ne, h6']
      refine hK_ _ ?_
      clear hK_
      have hcs1 : NV k (.lst cs lx (some lx)) := nv_words (by omega) (by omega) cw2
      have hvw : view [.cells cs] depthA (.sl 0 0 lx 1 (some lx)) = some (.lst cs lx (some lx), [0]) := by
        rw [view_words (cs := cs) rfl (by omega) cw2, List.drop_zero, List.take_of_length_le (by omega)]
      refine WOps.cons rfl fun K_ hK_ => ?_
      simp (config := { decide := true }) only [WOne, calleeOf, ev, evs, put, getD_self, List.length_set, hl']
      refine call_known (by decide) (viewL_one hvw) (trim_con _ k hcs1 (by omega)) fun z hz => ?_
      simp only [AX.kill]
      refine hK_ _ ?_
      clear hK_
      have hz' : NV k z := hz k hcs1
      refine WOps.cons rfl fun K_ hK_ => ?_
      simp (config := { decide := true }) only [WOne, calleeOf, axOp, ev, keep, okk_some, put, getD_self, List.length_set, hl']
      refine hK_ _ ?_
      clear hK_
      refine WOps.cons rfl fun K_ hK_ => ?_
      simp (config := { decide := true }) only [WOne, calleeOf, axOp, ev, keep, okk_some, put, ofValue]
      refine hK_ _ ?_
      clear hK_
      simp only [WOps]
      refine hK _ ?_
      clear hK
      refine W.ret ⟨.inr rfl, .tup [z, .bool true], ?_, _, [], view_nvb hz' true _, _, _, rfl, hz'⟩
      simp (config := { decide := true }) only [getD_self, getD_ne, List.length_set, resultsA, Tryz.results212, resultsL, hl']

end Go.AX

/- AX, part 30: products of natural numbers. -/
set_option linter.unusedVariables false
set_option linter.unusedSimpArgs false
set_option maxRecDepth 4000
namespace Go.AX
open Go Go.RowKit Go.Proofs

theorem slice_own {H : Heap} {id n i j : Nat} (h1 : i ≤ j) (h2 : j ≤ n) : sliceA Tryz.prog H 24 (.sl id 0 n 1 (some n)) (some (.int .i64 (i : Nat))) (some (.int .i64 (j : Nat))) none = some (.sl id (0 + i) (j - i) 1 (some (n - i))) := by
  simp [sliceA, size198, bnds, natOr, asNat_nat, h1, h2]

theorem mul_con (a b : AV) (k l : Nat) (ha : NV k a) (hb : NV l b) (hk : k ≤ 2 ^ 39) (hkl : l ≤ 2 ^ 39) : Con 148 [a, b] (fun r => NV (k + l) r) := by
  refine con_of Tryz.func148 rfl ?_
  show W ET _ _ ⟨[a, b] ++ List.replicate 96 .undef, []⟩
  generalize hT : [a, b] ++ List.replicate 96 AV.undef = T
  have hl : T.length = 98 := by subst hT; rfl
  have h0 : T.getD 0 .undef = a := by subst hT; rfl
  have h1 : T.getD 1 .undef = b := by subst hT; rfl
  clear hT
  refine W.seqk fun K hK => W.region ?_
  refine WOps.cons rfl fun K_ hK_ => ?_
  simp (config := { decide := true }) only [WOne, calleeOf, axOp, ev, keep, okk_some, put, ofValue]
  refine hK_ _ ?_
  clear hK_
  simp only [WOps]
  refine hK _ ?_
  clear hK
  refine W.seqk fun K hK => W.region ?_
  refine WOps.cons rfl fun K_ hK_ => ?_
  simp (config := { decide := true }) only [WOne, calleeOf, axOp, ev, keep, okk_some, put, getD_ne, h0]
  refine hK_ _ ?_
  clear hK_
  refine WOps.cons rfl fun K_ hK_ => ?_
  simp (config := { decide := true }) only [WOne, calleeOf, ev, evs, put, getD_self, List.length_set, hl]
  refine call_known (by decide) (viewL_nv ha) (trim_con a k ha (by omega)) fun x hx => ?_
  simp only [AX.kill]
  refine hK_ _ ?_
  clear hK_
  have hx' : NV k x := hx k ha
  refine WOps.cons rfl fun K_ hK_ => ?_
  simp (config := { decide := true }) only [WOne, calleeOf, axOp, ev, keep, okk_some, put, getD_ne, h1]
  refine hK_ _ ?_
  clear hK_
  refine WOps.cons rfl fun K_ hK_ => ?_
  simp (config := { decide := true }) only [WOne, calleeOf, ev, evs, put, getD_self, List.length_set, hl]
  refine call_known (by decide) (viewL_nv hb) (trim_con b l hb (by omega)) fun y hy => ?_
  simp only [AX.kill]
  refine hK_ _ ?_
  clear hK_
  have hy' : NV l y := hy l hb
  refine WOps.cons rfl fun K_ hK_ => ?_
  simp (config := { decide := true }) only [WOne, calleeOf, axOp, ev, keep, okk_some, put, getD_self, getD_ne, List.length_set, hl]
  refine hK_ _ ?_
  clear hK_
  refine WOps.cons rfl fun K_ hK_ => ?_
  simp (config := { decide := true }) only [WOne, calleeOf, axOp, ev, keep, okk_some, put, getD_self, getD_ne, List.length_set, hl]
  refine hK_ _ ?_
  clear hK_
  simp only [WOps]
  refine hK _ ?_
  clear hK
  obtain ⟨lx, hlx, fx⟩ := nv_len hx'
  obtain ⟨ly, hly, fy⟩ := nv_len hy'
  refine W.seqk fun Ks hKs => ?_
  refine W.seqk fun K hK => W.region ?_
  refine WOps.cons rfl fun K_ hK_ => ?_
  simp (config := { decide := true }) only [WOne, calleeOf, axOp, ev, keep, okk_some, put, getD_self, getD_ne, List.length_set, hl]
  refine hK_ _ ?_
  clear hK_
  refine WOps.cons rfl fun K_ hK_ => ?_
  simp (config := { decide := true }) only [WOne, calleeOf, axOp, ev, evs, okk_some, put, getD_self, List.length_set, et_P, hl, fun H => (fx H).1]
  refine hK_ _ ?_
  clear hK_
  by_cases hx0 : lx = 0
  · have hb1 : ((lx : Int) == 0) = true := by simp [hx0]
    refine WOps.cons rfl fun K_ hK_ => ?_
    simp (config := { decide := true }) only [WOne, calleeOf, axOp, ev, keep, okk_some, put, if_true, ofValue, getD_self, List.length_set, binA, intOp, hl, hb1]
    refine hK_ _ ?_
    clear hK_
    refine WOps.cons rfl fun K_ hK_ => ?_
    simp (config := { decide := true }) only [WOne, calleeOf, axOp, ev, keep, okk_some, put, getD_self, List.length_set, hl]
    refine hK_ _ ?_
    clear hK_
    refine WOps.no rfl rfl (by simp (config := { decide := true }) only [getD_self, List.length_set, Bool.not_false, hl]) ?_
    refine WOps.no rfl rfl (by simp (config := { decide := true }) only [put, getD_self, getD_ne, List.length_set, Bool.not_false, hl]) ?_
    refine WOps.no rfl rfl (by simp (config := { decide := true }) only [put, getD_self, getD_ne, List.length_set, Bool.not_false, hl]) ?_
    refine WOps.cons rfl fun K_ hK_ => ?_
    simp (config := { decide := true }) only [WOne, calleeOf, axOp, ev, keep, okk_some, put, ofValue, getD_self, getD_ne, List.length_set, hl]
    refine hK_ _ ?_
    clear hK_
    simp only [WOps]
    refine hK _ ?_
    clear hK
    refine W.cond (b := true) (by simp (config := { decide := true }) only [ev, getD_self, List.length_set, hl]) (fun _ => ?_) (fun h => by simp at h)
    refine W.seqk fun K hK => W.region ?_
    refine WOps.cons rfl fun K_ hK_ => ?_
    simp (config := { decide := true }) only [WOne, calleeOf, axOp, ev, keep, okk_some, put, ofValue]
    refine hK_ _ ?_
    clear hK_
    simp only [WOps]
    refine hK _ ?_
    clear hK
    refine W.ret ⟨.inr rfl, .nilsl, ?_, _, [], rfl, .inl rfl⟩
    simp (config := { decide := true }) only [getD_self, List.length_set, resultsA, Tryz.results148, resultsL, hl]
  have hb1 : ((lx : Int) == 0) = false := by simp; omega
  refine WOps.cons rfl fun K_ hK_ => ?_
  simp (config := { decide := true }) only [WOne, calleeOf, axOp, ev, keep, okk_some, put, if_true, ofValue, getD_self, List.length_set, binA, intOp, hl, hb1]
  refine hK_ _ ?_
  clear hK_
  refine WOps.cons rfl fun K_ hK_ => ?_
  simp (config := { decide := true }) only [WOne, calleeOf, axOp, ev, keep, okk_some, put, getD_self, List.length_set, hl]
  refine hK_ _ ?_
  clear hK_
  refine WOps.yes rfl rfl (by simp (config := { decide := true }) only [getD_self, List.length_set, hl]) fun K_ hK_ => ?_
  simp (config := { decide := true }) only [WOne, calleeOf, axOp, ev, keep, okk_some, put, getD_self, getD_ne, List.length_set, hl]
  refine hK_ _ ?_
  clear hK_
  refine WOps.yes rfl rfl (by simp (config := { decide := true }) only [getD_self, getD_ne, List.length_set, hl]) fun K_ hK_ => ?_
  simp (config := { decide := true }) only [WOne, calleeOf, axOp, ev, evs, okk_some, put, getD_self, List.length_set, et_P, hl, fun H => (fy H).1]
  refine hK_ _ ?_
  clear hK_
  by_cases hy0 : ly = 0
  · have hb2 : ((ly : Int) == 0) = true := by simp [hy0]
    refine WOps.yes rfl rfl (by simp (config := { decide := true }) only [getD_self, getD_ne, List.length_set, hl]) fun K_ hK_ => ?_
    simp (config := { decide := true }) only [WOne, calleeOf, axOp, ev, keep, okk_some, put, if_true, ofValue, getD_self, List.length_set, binA, intOp, hl, hb2]
    refine hK_ _ ?_
    clear hK_
    refine WOps.cons rfl fun K_ hK_ => ?_
    simp (config := { decide := true }) only [WOne, calleeOf, axOp, ev, keep, okk_some, put, getD_self, getD_ne, List.length_set, hl]
    refine hK_ _ ?_
    clear hK_
    simp only [WOps]
    refine hK _ ?_
    clear hK
    refine W.cond (b := true) (by simp (config := { decide := true }) only [ev, getD_self, List.length_set, hl]) (fun _ => ?_) (fun h => by simp at h)
    refine W.seqk fun K hK => W.region ?_
    refine WOps.cons rfl fun K_ hK_ => ?_
    simp (config := { decide := true }) only [WOne, calleeOf, axOp, ev, keep, okk_some, put, ofValue]
    refine hK_ _ ?_
    clear hK_
    simp only [WOps]
    refine hK _ ?_
    clear hK
    refine W.ret ⟨.inr rfl, .nilsl, ?_, _, [], rfl, .inl rfl⟩
    simp (config := { decide := true }) only [getD_self, List.length_set, resultsA, Tryz.results148, resultsL, hl]
  have hb2 : ((ly : Int) == 0) = false := by simp; omega
  refine WOps.yes rfl rfl (by simp (config := { decide := true }) only [getD_self, getD_ne, List.length_set, hl]) fun K_ hK_ => ?_
  simp (config := { decide := true }) only [WOne, calleeOf, axOp, ev, keep, okk_some, put, if_true, ofValue, getD_self, List.length_set, binA, intOp, hl, hb2]
  refine hK_ _ ?_
  clear hK_
  refine WOps.cons rfl fun K_ hK_ => ?_
  simp (config := { decide := true }) only [WOne, calleeOf, axOp, ev, keep, okk_some, put, getD_self, getD_ne, List.length_set, hl]
  refine hK_ _ ?_
  clear hK_
  simp only [WOps]
  refine hK _ ?_
  clear hK
  refine W.cond (b := false) (by simp (config := { decide := true }) only [ev, getD_self, List.length_set, hl]) (fun h => by simp at h) (fun _ => W.skip ?_)
  simp only [Th]
  refine hKs _ ?_
  clear hKs
  have hroom : ((lx + ly) * 4 ≤ roomA) = True := by simp only [eq_iff_iff, iff_true]; unfold roomA; omega
  have hw0 : IntKind.i64.wrap ((lx : Int) + (ly : Int)) = ((lx + ly : Nat) : Int) := by rw [wrapN] <;> omega
  refine W.seqk fun K hK => W.region ?_
  refine WOps.cons rfl fun K_ hK_ => ?_
  simp (config := { decide := true }) only [WOne, calleeOf, axOp, ev, keep, okk_some, put, getD_self, getD_ne, List.length_set, hl]
  refine hK_ _ ?_
  clear hK_
  refine WOps.cons rfl fun K_ hK_ => ?_
  simp (config := { decide := true }) only [WOne, calleeOf, axOp, ev, evs, okk_some, put, getD_self, List.length_set, et_P, hl, fun H => (fx H).1]
  refine hK_ _ ?_
  clear hK_
  refine WOps.cons rfl fun K_ hK_ => ?_
  simp (config := { decide := true }) only [WOne, calleeOf, axOp, ev, keep, okk_some, put, getD_self, getD_ne, List.length_set, hl]
  refine hK_ _ ?_
  clear hK_
  refine WOps.cons rfl fun K_ hK_ => ?_
  simp (config := { decide := true }) only [WOne, calleeOf, axOp, ev, evs, okk_some, put, getD_self, List.length_set, et_P, hl, fun H => (fy H).1]
  refine hK_ _ ?_
  clear hK_
  refine WOps.cons rfl fun K_ hK_ => ?_
  simp (config := { decide := true }) only [WOne, calleeOf, axOp, ev, keep, okk_some, put, if_true, getD_self, getD_ne, List.length_set, binA, intOp, hl, hw0]
  refine hK_ _ ?_
  clear hK_
  refine WOps.cons rfl fun K_ hK_ => ?_
  simp (config := { decide := true }) only [WOne, calleeOf, axOp, ev, okk_some, put, if_true, getD_self, List.length_set, P24, size198, et_P, decide_true, hl, asNat_nat, bytes198, zero198, hroom, AV.cells, oneCell, List.all_cons, List.all_nil, Nat.le_refl, Bool.and_self, List.length_nil, List.nil_append]
  refine hK_ _ ?_
  clear hK_
  obtain ⟨cw1, cw2⟩ := copies_words (lx + ly)
  generalize copies (lx + ly) [AV.int .u32 0] = cs at cw1 cw2 ⊢
  generalize hn : lx + ly = n at cw1 hroom hw0 ⊢
  refine WOps.cons rfl fun K_ hK_ => ?_
  simp (config := { decide := true }) only [WOne, calleeOf, axOp, ev, keep, okk_some, put, getD_self, List.length_set, hl]
  refine hK_ _ ?_
  clear hK_
  simp only [WOps]
  refine hK _ ?_
  clear hK
  refine W.seqk fun K1 hK1 => ?_
  refine W.seqk fun K hK => W.region ?_
  refine WOps.cons rfl fun K_ hK_ => ?_
  simp (config := { decide := true }) only [WOne, calleeOf, axOp, ev, keep, okk_some, put, getD_self, getD_ne, List.length_set, hl]
  refine hK_ _ ?_
  clear hK_
  refine WOps.cons rfl fun K_ hK_ => ?_
  simp (config := { decide := true }) only [WOne, calleeOf, axOp, ev, evs, okk_some, put, getD_self, List.length_set, et_P, hl, fun H => (fx H).1]
  refine hK_ _ ?_
  clear hK_
  refine WOps.cons rfl fun K_ hK_ => ?_
  simp (config := { decide := true }) only [WOne, calleeOf, axOp, ev, keep, okk_some, put, ofValue]
  refine hK_ _ ?_
  clear hK_
  simp only [WOps]
  refine hK _ ?_
  clear hK
  refine W.block (W.loop (fun m s => ∃ cs, s.H = [.cells cs] ∧ cs.length = n ∧ (∀ c ∈ cs, ∃ y, c = .int .u32 y) ∧ s.T.length = 98 ∧ s.T.getD 1 .undef = y ∧ s.T.getD 5 .undef = .sl 0 0 n 1 (some n) ∧ s.T.getD 33 .undef = x ∧ s.T.getD 34 .undef = .int .i64 lx ∧ ∃ i : Nat, i + m = lx ∧ s.T.getD 35 .undef = .int .i64 i) (n := lx) ?_ ?_)
  · refine ⟨cs, rfl, cw1, cw2, ?_, ?_, ?_, ?_, ?_, 0, Nat.zero_add _, ?_⟩ <;> simp (config := { decide := true }) only [getD_self, getD_ne, List.length_set, hl, Int.natCast_zero]
  · clear hl h0 h1 cw1 cw2
    rintro m ⟨T', H'⟩ ⟨cs, rfl, cw1, cw2, hl', h1', h5', h33, h34, i, him, h35⟩
    simp only at hl' h1' h5' h33 h34 h35
    by_cases hlt : i < lx
    · have hb3 : ((i : Int) < (lx : Int)) = True := by simp [hlt]
      obtain ⟨px, yx, ix, lx1⟩ := (fx []).2 i hlt
      have hw1 : IntKind.i64.wrap ((i : Int) + 1) = ((i + 1 : Nat) : Int) := by rw [wrapN] <;> omega
      have hw2 : IntKind.i64.wrap ((i : Int) + (ly : Int)) = ((i + ly : Nat) : Int) := by rw [wrapN] <;> omega
      refine W.seqk fun K hK => W.region ?_
      refine WOps.cons rfl fun K_ hK_ => ?_
      simp (config := { decide := true }) only [WOne, calleeOf, axOp, ev, keep, okk_some, put, if_true, binA, intOp, decide_true, h34, h35, hb3]
      refine hK_ _ ?_
      clear hK_
      simp only [WOps]
      refine hK _ ?_
      clear hK
      refine W.seqk fun K hK => W.cond (b := true) (by simp (config := { decide := true }) only [ev, getD_self, hl']) (fun _ => ?_) (fun h => by simp at h)
      refine W.skip (hK _ ?_)
      clear hK
      refine W.seqk fun K2 hK2 => W.block ?_
      -- the end of a round
      have fin : ∀ (T1 : List AV) (cs1 : List AV), cs1.length = n → (∀ c ∈ cs1, ∃ y, c = .int .u32 y) → T1.length = 98 → T1.getD 1 .undef = y → T1.getD 5 .undef = .sl 0 0 n 1 (some n) → T1.getD 33 .undef = x → T1.getD 34 .undef = .int .i64 lx → T1.getD 35 .undef = .int .i64 i → K2 ⟨T1, [.cells cs1]⟩ := by
        clear hl' h1' h5' h33 h34 h35 cw1 cw2
        intro T1 cs1 cw1 cw2 hl' h1' h5' h33 h34 h35
        refine hK2 _ (W.region ?_)
        clear hK2
        refine WOps.cons rfl fun K_ hK_ => ?_
        simp (config := { decide := true }) only [WOne, calleeOf, axOp, ev, keep, okk_some, put, if_true, ofValue, binA, intOp, h35, hw1]
        refine hK_ _ ?_
        clear hK_
        refine WOps.cons rfl fun K_ hK_ => ?_
        simp (config := { decide := true }) only [WOne, calleeOf, axOp, ev, keep, okk_some, put, getD_self, hl']
        refine hK_ _ ?_
        clear hK_
        simp only [WOps, Th]
        refine ⟨lx - (i + 1), by omega, cs1, by simp, cw1, cw2, ?_, ?_, ?_, ?_, ?_, i + 1, by omega, ?_⟩ <;> simp (config := { decide := true }) only [getD_self, getD_ne, List.length_set, hl', h1', h5', h33, h34]
      clear hK2
      refine W.seqk fun K hK => W.region ?_
      refine WOps.cons rfl fun K_ hK_ => ?_
      simp (config := { decide := true }) only [WOne, calleeOf, axOp, ev, keep, okk_some, put, getD_ne, h35]
      refine hK_ _ ?_
      clear hK_
      refine WOps.cons rfl fun K_ hK_ => ?_
      simp (config := { decide := true }) only [WOne, calleeOf, axOp, ev, keep, okk_some, put, getD_ne, Option.bind_some, et_P, h33, h35, asNat_nat, ix]
      refine hK_ _ ?_
      clear hK_
      refine WOps.cons rfl fun K_ hK_ => ?_
      simp (config := { decide := true }) only [WOne, calleeOf, axOp, ev, keep, okk_some, put, getD_self, List.length_set, et_P, hl', lx1]
      refine hK_ _ ?_
      clear hK_
      refine WOps.cons rfl fun K_ hK_ => ?_
      simp (config := { decide := true }) only [WOne, calleeOf, axOp, ev, keep, okk_some, put, getD_self, getD_ne, List.length_set, hl']
      refine hK_ _ ?_
      clear hK_
      refine WOps.cons rfl fun K_ hK_ => ?_
      simp (config := { decide := true }) only [WOne, calleeOf, axOp, ev, keep, okk_some, put, getD_self, getD_ne, List.length_set, hl']
      refine hK_ _ ?_
      clear hK_
      simp only [WOps]
      refine hK _ ?_
      clear hK
      refine W.seqk fun K3 hK3 => ?_
      by_cases hz : yx = 0
      · have hb4 : (yx == 0) = true := by simp [hz]
        refine W.seqk fun K hK => W.region ?_
        refine WOps.cons rfl fun K_ hK_ => ?_
        simp (config := { decide := true }) only [WOne, calleeOf, axOp, ev, keep, okk_some, put, getD_self, List.length_set, hl']
        refine hK_ _ ?_
        clear hK_
        refine WOps.cons rfl fun K_ hK_ => ?_
        simp (config := { decide := true }) only [WOne, calleeOf, axOp, ev, keep, okk_some, put, if_true, ofValue, getD_self, List.length_set, binA, intOp, hl', hb4]
        refine hK_ _ ?_
        clear hK_
        simp only [WOps]
        refine hK _ ?_
        clear hK
        refine W.cond (b := true) (by simp (config := { decide := true }) only [ev, getD_self, List.length_set, hl']) (fun _ => W.exit ?_) (fun h => by simp at h)
        simp only [Th, outOf, if_true]
        refine fin _ cs cw1 cw2 ?_ ?_ ?_ ?_ ?_ ?_ <;> simp (config := { decide := true }) only [getD_ne, List.length_set, hl', h1', h5', h33, h34, h35]
      have hb4 : (yx == 0) = false := by simp [hz]
      refine W.seqk fun K hK => W.region ?_
      refine WOps.cons rfl fun K_ hK_ => ?_
      simp (config := { decide := true }) only [WOne, calleeOf, axOp, ev, keep, okk_some, put, getD_self, List.length_set, hl']
      refine hK_ _ ?_
      clear hK_
      refine WOps.cons rfl fun K_ hK_ => ?_
      simp (config := { decide := true }) only [WOne, calleeOf, axOp, ev, keep, okk_some, put, if_true, ofValue, getD_self, List.length_set, binA, intOp, hl', hb4]
      refine hK_ _ ?_
      clear hK_
      simp only [WOps]
      refine hK _ ?_
      clear hK
      refine W.cond (b := false) (by simp (config := { decide := true }) only [ev, getD_self, List.length_set, hl']) (fun h => by simp at h) (fun _ => W.skip ?_)
      simp only [Th]
      refine hK3 _ ?_
      clear hK3
      refine W.seqk fun K hK => W.region ?_
      refine WOps.cons rfl fun K_ hK_ => ?_
      simp (config := { decide := true }) only [WOne, calleeOf, axOp, ev, keep, okk_some, put, ofValue]
      refine hK_ _ ?_
      clear hK_
      simp only [WOps]
      refine hK _ ?_
      clear hK
      have hsl : ∀ H, sliceA Tryz.prog H 24 (.sl 0 0 n 1 (some n)) (some (.int .i64 (i : Nat))) (some (.int .i64 (i + ly : Nat))) none = some (.sl 0 (0 + i) ly 1 (some (n - i))) := by
        intro H
        have := slice_own (H := H) (id := 0) (show i ≤ i + ly by omega) (show i + ly ≤ n by omega)
        rwa [show i + ly - i = ly by omega] at this
      refine W.seqk fun K hK => W.region ?_
      refine WOps.cons rfl fun K_ hK_ => ?_
      simp (config := { decide := true }) only [WOne, calleeOf, axOp, ev, keep, okk_some, put, getD_ne, h5']
      refine hK_ _ ?_
      clear hK_
      refine WOps.cons rfl fun K_ hK_ => ?_
      simp (config := { decide := true }) only [WOne, calleeOf, axOp, ev, keep, okk_some, put, getD_self, getD_ne, List.length_set, hl']
      refine hK_ _ ?_
      clear hK_
      refine WOps.cons rfl fun K_ hK_ => ?_
      simp (config := { decide := true }) only [WOne, calleeOf, axOp, ev, keep, okk_some, put, getD_self, getD_ne, List.length_set, hl']
      refine hK_ _ ?_
      clear hK_
      refine WOps.cons rfl fun K_ hK_ => ?_
      simp (config := { decide := true }) only [WOne, calleeOf, axOp, ev, keep, okk_some, put, getD_ne, h1']
      refine hK_ _ ?_
      clear hK_
      refine WOps.cons rfl fun K_ hK_ => ?_
      simp (config := { decide := true }) only [WOne, calleeOf, axOp, ev, evs, okk_some, put, getD_self, List.length_set, et_P, hl', fun H => (fy H).1]
      refine hK_ _ ?_
      clear hK_
      refine WOps.cons rfl fun K_ hK_ => ?_
      simp (config := { decide := true }) only [WOne, calleeOf, axOp, ev, keep, okk_some, put, if_true, getD_self, getD_ne, List.length_set, binA, intOp, hl', hw2]
      refine hK_ _ ?_
      clear hK_
      refine WOps.cons rfl fun K_ hK_ => ?_
      simp (config := { decide := true }) only [WOne, calleeOf, axOp, ev, keep, okk_some, put, getD_self, getD_ne, List.length_set, et_P, hl', optEv, hsl]
      refine hK_ _ ?_
      clear hK_
      refine WOps.cons rfl fun K_ hK_ => ?_
      simp (config := { decide := true }) only [WOne, calleeOf, axOp, ev, keep, okk_some, put, getD_self, List.length_set, hl']
      refine hK_ _ ?_
      clear hK_
      simp only [WOps]
      refine hK _ ?_
      clear hK
      refine W.seqk fun K4 hK4 => ?_
      refine W.seqk fun K hK => W.region ?_
      refine WOps.cons rfl fun K_ hK_ => ?_
      simp (config := { decide := true }) only [WOne, calleeOf, axOp, ev, keep, okk_some, put, getD_ne, h1']
      refine hK_ _ ?_
      clear hK_
      refine WOps.cons rfl fun K_ hK_ => ?_
      simp (config := { decide := true }) only [WOne, calleeOf, axOp, ev, evs, okk_some, put, getD_self, List.length_set, et_P, hl', fun H => (fy H).1]
      refine hK_ _ ?_
      clear hK_
      refine WOps.cons rfl fun K_ hK_ => ?_
      simp (config := { decide := true }) only [WOne, calleeOf, axOp, ev, keep, okk_some, put, ofValue]
      refine hK_ _ ?_
      clear hK_
      simp only [WOps]
      refine hK _ ?_
      clear hK
      refine W.block (W.loop (fun m s => ∃ cs c, s.H = [.cells cs] ∧ cs.length = n ∧ (∀ c ∈ cs, ∃ y, c = .int .u32 y) ∧ s.T.length = 98 ∧ s.T.getD 1 .undef = y ∧ s.T.getD 5 .undef = .sl 0 0 n 1 (some n) ∧ s.T.getD 6 .undef = .int .i64 i ∧ s.T.getD 7 .undef = .int .u32 yx ∧ s.T.getD 8 .undef = .int .u32 c ∧ s.T.getD 9 .undef = .sl 0 (0 + i) ly 1 (some (n - i)) ∧
        s.T.getD 33 .undef = x ∧ s.T.getD 34 .undef = .int .i64 lx ∧ s.T.getD 35 .undef = .int .i64 i ∧ s.T.getD 49 .undef = y ∧ s.T.getD 50 .undef = .int .i64 ly ∧ ∃ j : Nat, j + m = ly ∧ s.T.getD 51 .undef = .int .i64 j) (n := ly) ?_ ?_)
      · refine ⟨cs, 0, rfl, cw1, cw2, ?_, ?_, ?_, ?_, ?_, ?_, ?_, ?_, ?_, ?_, ?_, ?_, 0, Nat.zero_add _, ?_⟩ <;> simp (config := { decide := true }) only [getD_self, getD_ne, List.length_set, hl', h1', h5', h33, h34, h35, Int.natCast_zero]
      · clear hl' h1' h5' h33 h34 h35 cw1 cw2
        rintro m2 ⟨T2, H2⟩ ⟨cs, c, rfl, cw1, cw2, hl', h1', h5', h6', h7', h8', h9', h33, h34, h35, h49, h50, j, hjm, h51⟩
        simp only at hl' h1' h5' h6' h7' h8' h9' h33 h34 h35 h49 h50 h51
        by_cases hj : j < ly
        · have hb5 : ((j : Int) < (ly : Int)) = True := by simp [hj]
          obtain ⟨py, yy, iy, ly1⟩ := (fy []).2 j hj
          have hw3 : IntKind.i64.wrap ((j : Int) + 1) = ((j + 1 : Nat) : Int) := by rw [wrapN] <;> omega
          refine W.seqk fun K hK => W.region ?_
          refine WOps.cons rfl fun K_ hK_ => ?_
          simp (config := { decide := true }) only [WOne, calleeOf, axOp, ev, keep, okk_some, put, if_true, binA, intOp, decide_true, h50, h51, hb5]
          refine hK_ _ ?_
          clear hK_
          simp only [WOps]
          refine hK _ ?_
          clear hK
          refine W.seqk fun K hK => W.cond (b := true) (by simp (config := { decide := true }) only [ev, getD_self, hl']) (fun _ => ?_) (fun h => by simp at h)
          refine W.skip (hK _ ?_)
          clear hK
          refine W.seqk fun K5 hK5 => W.block ?_
          refine W.seqk fun K hK => W.region ?_
          refine WOps.cons rfl fun K_ hK_ => ?_
          simp (config := { decide := true }) only [WOne, calleeOf, axOp, ev, keep, okk_some, put, getD_ne, h51]
          refine hK_ _ ?_
          clear hK_
          refine WOps.cons rfl fun K_ hK_ => ?_
          simp (config := { decide := true }) only [WOne, calleeOf, axOp, ev, keep, okk_some, put, getD_ne, Option.bind_some, et_P, h49, h51, asNat_nat, iy]
          refine hK_ _ ?_
          clear hK_
          refine WOps.cons rfl fun K_ hK_ => ?_
          simp (config := { decide := true }) only [WOne, calleeOf, axOp, ev, keep, okk_some, put, getD_self, List.length_set, et_P, hl', ly1]
          refine hK_ _ ?_
          clear hK_
          refine WOps.cons rfl fun K_ hK_ => ?_
          simp (config := { decide := true }) only [WOne, calleeOf, axOp, ev, keep, okk_some, put, getD_self, getD_ne, List.length_set, hl']
          refine hK_ _ ?_
          clear hK_
          refine WOps.cons rfl fun K_ hK_ => ?_
          simp (config := { decide := true }) only [WOne, calleeOf, axOp, ev, keep, okk_some, put, getD_self, getD_ne, List.length_set, hl']
          refine hK_ _ ?_
          clear hK_
          simp only [WOps]
          refine hK _ ?_
          clear hK
          refine W.seqk fun K hK => W.region ?_
          refine WOps.cons rfl fun K_ hK_ => ?_
          simp (config := { decide := true }) only [WOne, calleeOf, axOp, ev, keep, okk_some, put, getD_ne, h7']
          refine hK_ _ ?_
          clear hK_
          refine WOps.cons rfl fun K_ hK_ => ?_
          simp (config := { decide := true }) only [WOne, calleeOf, axOp, ev, keep, okk_some, put, getD_self, getD_ne, List.length_set, hl']
          refine hK_ _ ?_
          clear hK_
          refine WOps.cons rfl fun K_ hK_ => ?_
          simp (config := { decide := true }) only [WOne, calleeOf, ev, evs, put, getD_self, getD_ne, List.length_set, hl']
          refine call_known (by decide) (viewL_words (n := 39) _ (by simp)) (mul32_con yx yy) fun r hr => ?_
          simp only [AX.kill]
          refine hK_ _ ?_
          clear hK_
          obtain ⟨hi1, lo1, rfl⟩ := hr
          refine WOps.cons rfl fun K_ hK_ => ?_
          simp (config := { decide := true }) only [WOne, calleeOf, axOp, ev, keep, okk_some, put, getD_self, List.length_set, hl']
          refine hK_ _ ?_
          clear hK_
          refine WOps.cons rfl fun K_ hK_ => ?_
          simp (config := { decide := true }) only [WOne, List.getElem?_cons_zero, calleeOf, axOp, ev, keep, okk_some, put, getD_self, List.length_set, hl']
          refine hK_ _ ?_
          clear hK_
          refine WOps.cons rfl fun K_ hK_ => ?_
          simp (config := { decide := true }) only [WOne, List.getElem?_cons_zero, List.getElem?_cons_succ, calleeOf, axOp, ev, keep, okk_some, put, getD_self, getD_ne, List.length_set, hl']
          refine hK_ _ ?_
          clear hK_
          refine WOps.cons rfl fun K_ hK_ => ?_
          simp (config := { decide := true }) only [WOne, calleeOf, axOp, ev, keep, okk_some, put, getD_self, getD_ne, List.length_set, hl']
          refine hK_ _ ?_
          clear hK_
          refine WOps.cons rfl fun K_ hK_ => ?_
          simp (config := { decide := true }) only [WOne, calleeOf, axOp, ev, keep, okk_some, put, getD_self, getD_ne, List.length_set, hl']
          refine hK_ _ ?_
          clear hK_
          simp only [WOps]
          refine hK _ ?_
          clear hK
          obtain ⟨old, hold⟩ := load_own (H := [.cells cs]) (id := 0) (off := 0 + i + j) (cs := cs) rfl (by omega) cw2
          refine W.seqk fun K hK => W.region ?_
          refine WOps.cons rfl fun K_ hK_ => ?_
          simp (config := { decide := true }) only [WOne, calleeOf, axOp, ev, keep, okk_some, put, getD_self, List.length_set, hl']
          refine hK_ _ ?_
          clear hK_
          refine WOps.cons rfl fun K_ hK_ => ?_
          simp (config := { decide := true }) only [WOne, calleeOf, axOp, ev, keep, okk_some, put, getD_ne, h9']
          refine hK_ _ ?_
          clear hK_
          refine WOps.cons rfl fun K_ hK_ => ?_
          simp (config := { decide := true }) only [WOne, calleeOf, axOp, ev, keep, okk_some, put, getD_self, getD_ne, List.length_set, hl']
          refine hK_ _ ?_
          clear hK_
          refine WOps.cons rfl fun K_ hK_ => ?_
          simp (config := { decide := true }) only [WOne, calleeOf, axOp, ev, keep, okk_some, put, getD_self, getD_ne, List.length_set, Option.bind_some, et_P, hl', asNat_nat, index_own (id := 0) (off := 0 + i) (sz := 1) (cap := some (n - i)) hj]
          refine hK_ _ ?_
          clear hK_
          refine WOps.cons rfl fun K_ hK_ => ?_
          simp (config := { decide := true }) only [WOne, calleeOf, axOp, ev, keep, okk_some, put, getD_self, List.length_set, et_P, hl', hold]
          refine hK_ _ ?_
          clear hK_
          refine WOps.cons rfl fun K_ hK_ => ?_
          simp (config := { decide := true }) only [WOne, calleeOf, ev, evs, put, ofValue, getD_self, getD_ne, List.length_set, hl']
          refine call_known (by decide) (viewL_words (n := 39) _ (by simp)) (add32_con lo1 old 0) fun r2 hr2 => ?_
          simp only [AX.kill]
          refine hK_ _ ?_
          clear hK_
          obtain ⟨s2, c2, rfl⟩ := hr2
          refine WOps.cons rfl fun K_ hK_ => ?_
          simp (config := { decide := true }) only [WOne, calleeOf, axOp, ev, keep, okk_some, put, getD_self, List.length_set, hl']
          refine hK_ _ ?_
          clear hK_
          refine WOps.cons rfl fun K_ hK_ => ?_
          simp (config := { decide := true }) only [WOne, List.getElem?_cons_zero, calleeOf, axOp, ev, keep, okk_some, put, getD_self, List.length_set, hl']
          refine hK_ _ ?_
          clear hK_
          refine WOps.cons rfl fun K_ hK_ => ?_
          simp (config := { decide := true }) only [WOne, List.getElem?_cons_zero, List.getElem?_cons_succ, calleeOf, axOp, ev, keep, okk_some, put, getD_self, getD_ne, List.length_set, hl']
          refine hK_ _ ?_
          clear hK_
          refine WOps.cons rfl fun K_ hK_ => ?_
          simp (config := { decide := true }) only [WOne, calleeOf, axOp, ev, keep, okk_some, put, getD_self, getD_ne, List.length_set, hl']
          refine hK_ _ ?_
          clear hK_
          refine WOps.cons rfl fun K_ hK_ => ?_
          simp (config := { decide := true }) only [WOne, calleeOf, axOp, ev, keep, okk_some, put, getD_self, getD_ne, List.length_set, hl']
          refine hK_ _ ?_
          clear hK_
          simp only [WOps]
          refine hK _ ?_
          clear hK
          refine W.seqk fun K hK => W.region ?_
          refine WOps.cons rfl fun K_ hK_ => ?_
          simp (config := { decide := true }) only [WOne, calleeOf, axOp, ev, keep, okk_some, put, getD_self, getD_ne, List.length_set, hl']
          refine hK_ _ ?_
          clear hK_
          refine WOps.cons rfl fun K_ hK_ => ?_
          simp (config := { decide := true }) only [WOne, calleeOf, axOp, ev, keep, okk_some, put, getD_self, getD_ne, List.length_set, hl']
          refine hK_ _ ?_
          clear hK_
          refine WOps.cons rfl fun K_ hK_ => ?_
          simp (config := { decide := true }) only [WOne, calleeOf, axOp, ev, keep, okk_some, put, if_true, getD_self, getD_ne, List.length_set, binA, intOp, hl']
          refine hK_ _ ?_
          clear hK_
          refine WOps.cons rfl fun K_ hK_ => ?_
          simp (config := { decide := true }) only [WOne, calleeOf, axOp, ev, keep, okk_some, put, getD_self, List.length_set, hl']
          refine hK_ _ ?_
          clear hK_
          simp only [WOps]
          refine hK _ ?_
          clear hK
          refine W.seqk fun K hK => W.region ?_
          refine WOps.cons rfl fun K_ hK_ => ?_
          simp (config := { decide := true }) only [WOne, calleeOf, axOp, ev, keep, okk_some, put, getD_self, getD_ne, List.length_set, hl']
          refine hK_ _ ?_
          clear hK_
          refine WOps.cons rfl fun K_ hK_ => ?_
          simp (config := { decide := true }) only [WOne, calleeOf, axOp, ev, keep, okk_some, put, getD_ne, h8']
          refine hK_ _ ?_
          clear hK_
          refine WOps.cons rfl fun K_ hK_ => ?_
          simp (config := { decide := true }) only [WOne, calleeOf, ev, evs, put, ofValue, getD_self, getD_ne, List.length_set, hl']
          refine call_known (by decide) (viewL_words (n := 39) _ (by simp)) (add32_con s2 c 0) fun r3 hr3 => ?_
          simp only [AX.kill]
          refine hK_ _ ?_
          clear hK_
          obtain ⟨s3, c3, rfl⟩ := hr3
          refine WOps.cons rfl fun K_ hK_ => ?_
          simp (config := { decide := true }) only [WOne, calleeOf, axOp, ev, keep, okk_some, put, getD_self, List.length_set, hl']
          refine hK_ _ ?_
          clear hK_
          refine WOps.cons rfl fun K_ hK_ => ?_
          simp (config := { decide := true }) only [WOne, List.getElem?_cons_zero, calleeOf, axOp, ev, keep, okk_some, put, getD_self, List.length_set, hl']
          refine hK_ _ ?_
          clear hK_
          refine WOps.cons rfl fun K_ hK_ => ?_
          simp (config := { decide := true }) only [WOne, List.getElem?_cons_zero, List.getElem?_cons_succ, calleeOf, axOp, ev, keep, okk_some, put, getD_self, getD_ne, List.length_set, hl']
          refine hK_ _ ?_
          clear hK_
          refine WOps.cons rfl fun K_ hK_ => ?_
          simp (config := { decide := true }) only [WOne, calleeOf, axOp, ev, keep, okk_some, put, getD_self, getD_ne, List.length_set, hl']
          refine hK_ _ ?_
          clear hK_
          refine WOps.cons rfl fun K_ hK_ => ?_
          simp (config := { decide := true }) only [WOne, calleeOf, axOp, ev, keep, okk_some, put, getD_self, getD_ne, List.length_set, hl']
          refine hK_ _ ?_
          clear hK_
          simp only [WOps]
          refine hK _ ?_
          clear hK
          obtain ⟨cs1, st1, w1, w2⟩ := store_own (H := [.cells cs]) (id := 0) (off := 0 + i + j) (cs := cs) rfl (by omega) s3 cw2
          refine W.region ?_
          refine WOps.cons rfl fun K_ hK_ => ?_
          simp (config := { decide := true }) only [WOne, calleeOf, axOp, ev, keep, okk_some, put, getD_ne, h9']
          refine hK_ _ ?_
          clear hK_
          refine WOps.cons rfl fun K_ hK_ => ?_
          simp (config := { decide := true }) only [WOne, calleeOf, axOp, ev, keep, okk_some, put, getD_self, getD_ne, List.length_set, hl']
          refine hK_ _ ?_
          clear hK_
          refine WOps.cons rfl fun K_ hK_ => ?_
          simp (config := { decide := true }) only [WOne, calleeOf, axOp, ev, keep, okk_some, put, getD_self, getD_ne, List.length_set, hl']
          refine hK_ _ ?_
          clear hK_
          refine WOps.cons rfl fun K_ hK_ => ?_
          simp (config := { decide := true }) only [WOne, calleeOf, axOp, ev, keep, okk_some, put, getD_self, getD_ne, List.length_set, hl']
          refine hK_ _ ?_
          clear hK_
          refine WOps.cons rfl fun K_ hK_ => ?_
          simp (config := { decide := true }) only [WOne, calleeOf, axOp, ev, keep, okk_some, put, getD_self, getD_ne, List.length_set, hl']
          refine hK_ _ ?_
          clear hK_
          refine WOps.cons rfl fun K_ hK_ => ?_
          simp (config := { decide := true }) only [WOne, calleeOf, axOp, ev, keep, okk_some, put, if_true, getD_self, getD_ne, List.length_set, binA, intOp, hl']
          refine hK_ _ ?_
          clear hK_
          refine WOps.cons rfl fun K_ hK_ => ?_
          simp (config := { decide := true }) only [WOne, calleeOf, axOp, ev, keep, okk_some, put, getD_self, getD_ne, List.length_set, Option.bind_some, et_P, hl', asNat_nat, index_own (id := 0) (off := 0 + i) (sz := 1) (cap := some (n - i)) hj]
          refine hK_ _ ?_
          clear hK_
          refine WOps.cons rfl fun K_ hK_ => ?_
          simp (config := { decide := true }) only [WOne, calleeOf, axOp, ev, okk_some, put, getD_self, getD_ne, List.length_set, et_P, hl', st1]
          refine hK_ _ ?_
          clear hK_
          refine WOps.cons rfl fun K_ hK_ => ?_
          simp (config := { decide := true }) only [WOne, calleeOf, axOp, ev, keep, okk_some, put, getD_self, getD_ne, List.length_set, hl']
          refine hK_ _ ?_
          clear hK_
          simp only [WOps, Th, outOf]
          refine hK5 _ (W.region ?_)
          clear hK5
          refine WOps.cons rfl fun K_ hK_ => ?_
          simp (config := { decide := true }) only [WOne, calleeOf, axOp, ev, keep, okk_some, put, if_true, ofValue, getD_ne, binA, intOp, h51, hw3]
          refine hK_ _ ?_
          clear hK_
          refine WOps.cons rfl fun K_ hK_ => ?_
          simp (config := { decide := true }) only [WOne, calleeOf, axOp, ev, keep, okk_some, put, getD_self, List.length_set, hl']
          refine hK_ _ ?_
          clear hK_
          simp only [WOps, Th]
          refine ⟨ly - (j + 1), by omega, cs1, IntKind.u32.wrap (IntKind.u32.wrap (hi1 + c2) + c3), by simp, by omega, w2, ?_, ?_, ?_, ?_, ?_, ?_, ?_, ?_, ?_, ?_, ?_, ?_, j + 1, by omega, ?_⟩ <;> simp (config := { decide := true }) only [getD_self, getD_ne, List.length_set, hl', h1', h5', h6', h7', h9', h33, h34, h35, h49, h50]
        · have hb5 : ((j : Int) < (ly : Int)) = False := by simp; omega
          refine W.seqk fun K hK => W.region ?_
          refine WOps.cons rfl fun K_ hK_ => ?_
          simp (config := { decide := true }) only [WOne, calleeOf, axOp, ev, keep, okk_some, put, if_true, binA, intOp, decide_false, h50, h51, hb5]
          refine hK_ _ ?_
          clear hK_
          simp only [WOps]
          refine hK _ ?_
          clear hK
          refine W.seqk fun K hK => W.cond (b := false) (by simp (config := { decide := true }) only [ev, getD_self, hl']) (fun h => by simp at h) (fun _ => W.exit ?_)
          simp only [Th, outOf, if_true]
          refine hK4 _ (W.region ?_)
          clear hK4
          refine WOps.cons rfl fun K_ hK_ => ?_
          simp (config := { decide := true }) only [WOne, calleeOf, axOp, ev, keep, okk_some, put, getD_ne, h5']
          refine hK_ _ ?_
          clear hK_
          refine WOps.cons rfl fun K_ hK_ => ?_
          simp (config := { decide := true }) only [WOne, calleeOf, axOp, ev, keep, okk_some, put, getD_ne, h6']
          refine hK_ _ ?_
          clear hK_
          refine WOps.cons rfl fun K_ hK_ => ?_
          simp (config := { decide := true }) only [WOne, calleeOf, axOp, ev, keep, okk_some, put, getD_ne, h1']
          refine hK_ _ ?_
          clear hK_
          refine WOps.cons rfl fun K_ hK_ => ?_
          simp (config := { decide := true }) only [WOne, calleeOf, axOp, ev, evs, okk_some, put, getD_self, List.length_set, et_P, hl', fun H => (fy H).1]
          refine hK_ _ ?_
          clear hK_
          obtain ⟨cs1, st1, w1, w2⟩ := store_own (H := [.cells cs]) (id := 0) (off := 0 + (i + ly)) (cs := cs) rfl (by omega) c cw2
          refine WOps.cons rfl fun K_ hK_ => ?_
          simp (config := { decide := true }) only [WOne, calleeOf, axOp, ev, keep, okk_some, put, if_true, getD_self, getD_ne, List.length_set, binA, intOp, hl', hw2]
          refine hK_ _ ?_
          clear hK_
          refine WOps.cons rfl fun K_ hK_ => ?_
          simp (config := { decide := true }) only [WOne, calleeOf, axOp, ev, keep, okk_some, put, getD_ne, h8']
          refine hK_ _ ?_
          clear hK_
          refine WOps.cons rfl fun K_ hK_ => ?_
          simp (config := { decide := true }) only [WOne, calleeOf, axOp, ev, keep, okk_some, put, getD_self, getD_ne, List.length_set, Option.bind_some, et_P, hl', asNat_nat, index_own (id := 0) (off := 0) (sz := 1) (cap := some n) (show i + ly < n by omega)]
          refine hK_ _ ?_
          clear hK_
          refine WOps.cons rfl fun K_ hK_ => ?_
          simp (config := { decide := true }) only [WOne, calleeOf, axOp, ev, okk_some, put, getD_self, getD_ne, List.length_set, et_P, hl', st1]
          refine hK_ _ ?_
          clear hK_
          simp only [WOps, Th, outOf, List.set_cons_zero]
          refine fin _ cs1 (by omega) w2 ?_ ?_ ?_ ?_ ?_ ?_ <;> simp (config := { decide := true }) only [getD_ne, List.length_set, hl', h1', h5', h33, h34, h35]
    · have hb3 : ((i : Int) < (lx : Int)) = False := by simp; omega
      refine W.seqk fun K hK => W.region ?_
      refine WOps.cons rfl fun K_ hK_ => ?_
      simp (config := { decide := true }) only [WOne, calleeOf, axOp, ev, keep, okk_some, put, if_true, binA, intOp, decide_false, h34, h35, hb3]
      refine hK_ _ ?_
      clear hK_
      simp only [WOps]
      refine hK _ ?_
      clear hK
      refine W.seqk fun K hK => W.cond (b := false) (by simp (config := { decide := true }) only [ev, getD_self, hl']) (fun h => by simp at h) (fun _ => W.exit ?_)
      simp only [Th, outOf, if_true]
      refine hK1 _ ?_
      clear hK1
      refine W.seqk fun K hK => W.region ?_
      refine WOps.cons rfl fun K_ hK_ => ?_
      simp (config := { decide := true }) only [WOne, calleeOf, axOp, ev, keep, okk_some, put, getD_ne, h5']
      refine hK_ _ ?_
      clear hK_
      have hcs1 : NV (k + l) (.lst cs n (some n)) := nv_words (by omega) (by omega) cw2
      have hvw : view [.cells cs] depthA (.sl 0 0 n 1 (some n)) = some (.lst cs n (some n), [0]) := by
        rw [view_words (cs := cs) rfl (by omega) cw2, List.drop_zero, List.take_of_length_le (by omega)]
      refine WOps.cons rfl fun K_ hK_ => ?_
      simp (config := { decide := true }) only [WOne, calleeOf, ev, evs, put, getD_self, List.length_set, hl']
      refine call_known (by decide) (viewL_one hvw) (trim_con _ (k + l) hcs1 (by omega)) fun z hz => ?_
      simp only [AX.kill]
      refine hK_ _ ?_
      clear hK_
      have hz' : NV (k + l) z := hz (k + l) hcs1
      refine WOps.cons rfl fun K_ hK_ => ?_
      simp (config := { decide := true }) only [WOne, calleeOf, axOp, ev, keep, okk_some, put, getD_self, List.length_set, hl']
      refine hK_ _ ?_
      clear hK_
      simp only [WOps]
      refine hK _ ?_
      clear hK
      refine W.ret ⟨.inr rfl, z, ?_, z, [], view_nv hz' _, hz'⟩
      simp (config := { decide := true }) only [getD_self, List.length_set, resultsA, Tryz.results148, resultsL, hl']

end Go.AX
