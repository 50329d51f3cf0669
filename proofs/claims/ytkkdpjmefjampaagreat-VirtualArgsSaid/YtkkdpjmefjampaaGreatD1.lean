/- The law VirtualArgs of layer 53 is proved as it is given (Rows.VirtualArgsSaid): for every prenex form and every level the call returns true and the arguments read as before. No condition beyond the statement itself. -/
/- AX, part 61: arguments that can be read are data. -/
import Derived.Test.YtkkdpjmefjampaaGreatC5
import Derived.ChangeArms
import Derived.Test.YtkkdpjmefjampaaGreatRows
import Derived.ProofKit
import Derived.OpenShut
import Derived.Carry
set_option linter.unusedVariables false
set_option linter.unusedSimpArgs false
set_option maxRecDepth 4000
set_option maxHeartbeats 4000000
namespace Go.AX
open Go Go.RowKit Go.Proofs

/-- The blocks of cells. -/
def ZW (w : World) (b : Nat) : Prop := ∃ c t fr, w.heap[b]? = some (.cells c t fr)

def RdL (w : World) (cs : List AV) (vs : List Value) : Prop := cs.length = vs.length ∧ ∀ i (h : i < cs.length) (h' : i < vs.length), Rel (ZW w) w noRho cs[i] vs[i]

section
variable {H : Type} {enc : TypeId × Value → H} {w : World}

/-- What is read so, with this much fuel, is data of a kind. -/
def Rd (enc : TypeId × Value → H) (w : World) (n : Nat) (t : TypeId) (P : List AV → Prop) : Prop :=
  ∀ vs x, DataW.trod enc Tryz.prog w 0 (fun _ => true) true n t vs = some x → ∃ cs, RdL w cs vs ∧ P cs

theorem RdL.nil : RdL w [] [] := ⟨rfl, fun i h => by simp at h⟩

theorem RdL.one {a : AV} {v : Value} (h : Rel (ZW w) w noRho a v) : RdL w [a] [v] := ⟨rfl, fun i hi hi' => by
  have : i = 0 := by simp at hi; omega
  subst this; exact h⟩

theorem RdL.append {cs cs' : List AV} {vs vs' : List Value} (h : RdL w cs vs) (h' : RdL w cs' vs') : RdL w (cs ++ cs') (vs ++ vs') := by
  refine ⟨by rw [List.length_append, List.length_append, h.1, h'.1], fun i hi hi' => ?_⟩
  by_cases hlt : i < cs.length
  · have hlt' : i < vs.length := h.1 ▸ hlt
    rw [List.getElem_append_left hlt, List.getElem_append_left hlt']
    exact h.2 i hlt hlt'
  · have hge : cs.length ≤ i := by omega
    have hge' : vs.length ≤ i := h.1 ▸ hge
    rw [List.getElem_append_right hge, List.getElem_append_right hge']
    have e := h.1
    have := h'.2 (i - cs.length) (by simp at hi; omega) (by simp at hi'; omega)
    simpa [e] using this

theorem rd_int {n : Nat} {t : TypeId} {k : IntKind} (hu : Tryz.prog.underlying t = some (.int k)) : Rd enc w n t (fun cs => ∃ x, cs = [.int k x] ∧ k.min ≤ x ∧ x ≤ k.max) := by
  intro vs x h
  obtain ⟨m, rfl, _, hw⟩ := DataW.trod_int hu h
  simp only [Lit.wf, Bool.and_eq_true, decide_eq_true_eq] at hw
  exact ⟨[.int k m], .one (.int k m), m, rfl, hw⟩

theorem rd_bool {n : Nat} {t : TypeId} (hu : Tryz.prog.underlying t = some .bool) : Rd enc w n t (fun cs => ∃ b, cs = [.bool b]) := by
  intro vs x h
  obtain ⟨b, rfl, _⟩ := DataW.trod_bool hu h
  exact ⟨[.bool b], .one (.bool b), b, rfl⟩

theorem rd_str {n : Nat} {t : TypeId} (hu : Tryz.prog.underlying t = some .string) : Rd enc w n t (fun cs => ∃ s, cs = [.str s] ∧ s.size ≤ 9223372036854775807) := by
  intro vs x h
  obtain ⟨s, rfl, _, hs⟩ := DataW.trod_string hu h
  exact ⟨[.str s], .one (.str s), s, rfl, by simpa [maxLen] using hs⟩

theorem mapM_get {α β : Type} {f : α → Option β} : ∀ {l : List α} {r : List β}, l.mapM f = some r → r.length = l.length ∧ ∀ (i : Nat) (h : i < l.length) (h' : i < r.length), f l[i] = some r[i]
  | [], r, h => by simp at h; subst h; exact ⟨rfl, fun i h => by simp at h⟩
  | a :: l, r, h => by
    simp only [List.mapM_cons, Option.pure_def, Option.bind_eq_bind, Option.bind_eq_some_iff] at h
    obtain ⟨b, hb, bs, hbs, e⟩ := h
    simp at e
    subst e
    obtain ⟨h1, h2⟩ := mapM_get hbs
    refine ⟨by simp [h1], fun i hi hi' => ?_⟩
    cases i with
    | zero => exact hb
    | succ i => exact h2 i (by simpa using hi) (by simpa using hi')

/-- Cells in a row. -/
theorem cells_get {a : Addr} {k : Nat} {vs : List Value} (h : w.cells? 0 a k = some vs) : vs.length = k ∧ ∀ j (hj : j < vs.length), w.cell? (a.add j) = some vs[j] := by
  unfold World.cells? at h
  simp only [Nat.zero_le, if_true] at h
  obtain ⟨h1, h2⟩ := mapM_get h
  simp at h1
  refine ⟨h1, fun j hj => ?_⟩
  have := h2 j (by simp; omega) hj
  simpa using this

theorem cell_block {a : Addr} {v : Value} (h : w.cell? a = some v) : a.spot = none ∧ ZW w a.block := by
  unfold World.cell? at h
  split at h
  · rename_i c t fr hc
    split at h
    · simp at h
    · rename_i hs
      exact ⟨by simpa using hs, _, _, _, hc⟩
  · simp at h

theorem add_none {b o n : Nat} : (Addr.mk b o none).add n = ⟨b, o + n, none⟩ := by
  unfold Addr.add
  split
  · subst_vars; rfl
  · rfl

theorem rd_slice {n : Nat} {t e : TypeId} {k : Nat} {P : List AV → Prop} (hu : Tryz.prog.underlying t = some (.slice e)) (hk : Tryz.prog.cellsOf e = k) (hk0 : 0 < k) (hP : ∀ m, m < n → Rd enc w m e P) :
    Rd enc w n t (fun cs => ∃ a len, cs = [a] ∧ LS k (fun _ c => P c) a len ∧ len ≤ 9223372036854775807) := by
  intro vs x h
  rcases DataW.trod_slice hu h with ⟨rfl, _⟩ | ⟨a, len, cap, elems, rest, m, rfl, rfl, _, _, hlc, hcap, hel, hget, hrest, _⟩
  · exact ⟨[.nilsl], .one .nilsl, .nilsl, 0, rfl, .inl ⟨rfl, rfl⟩, by omega⟩
  · rw [hk] at hget hrest
    have hcap' : cap ≤ 9223372036854775807 := by simpa [maxLen] using hcap
    by_cases hc0 : cap = 0
    · subst hc0
      obtain rfl : len = 0 := by omega
      exact ⟨[.lst [] 0 none], .one (.lst0 a fun k hk => by simp at hk), _, 0, rfl, .inr ⟨[], none, rfl, by simp, fun i hi => by omega⟩, by omega⟩
    · -- the first element, or the first spare one
      have hfirst : ∃ v, w.cell? a = some v := by
        have hz : ∀ (y : DataW H × List MemPlace), (w.cells? 0 (a.add (0 * k)) k).bind (DataW.trod enc Tryz.prog w 0 (fun _ => true) true m e) = some y → ∃ v, w.cell? a = some v := by
          intro y hy
          rw [Option.bind_eq_some_iff] at hy
          obtain ⟨us, hus, _⟩ := hy
          obtain ⟨g1, g2⟩ := cells_get hus
          have := g2 0 (by omega)
          simp [Addr.add] at this
          exact ⟨_, this⟩
        by_cases hl0 : 0 < len
        · have := hget 0 hl0
          rw [List.getElem?_eq_getElem (by omega)] at this
          exact hz _ this
        · have hl : len = 0 := by omega
          obtain ⟨r1, r2⟩ := hrest rfl
          have := r2 0 (by omega)
          have e0 : (len + 0) * k = 0 * k := by rw [hl]
          rw [List.getElem?_eq_getElem (by omega), e0] at this
          exact hz _ this
      obtain ⟨v0, hv0⟩ := hfirst
      obtain ⟨hsp, hzb⟩ := cell_block hv0
      obtain ⟨b, o, sp⟩ := a
      simp only at hsp hzb
      subst hsp
      have key : ∀ p, p ≤ len → ∃ cells : List AV, cells.length = p * k ∧ (∀ i, i < p → P ((cells.drop (i * k)).take k)) ∧ ∀ i (hi : i < cells.length), ∃ v, w.cell? ⟨b, o + i, none⟩ = some v ∧ Rel (ZW w) w noRho cells[i] v := by
        intro p
        induction p with
        | zero => intro _; exact ⟨[], by simp, fun i hi => by omega, fun i hi => by simp at hi⟩
        | succ p ih =>
          intro hp
          obtain ⟨cells, c1, c2, c3⟩ := ih (by omega)
          have hg := hget p (by omega)
          rw [List.getElem?_eq_getElem (by omega), Option.bind_eq_some_iff] at hg
          obtain ⟨us, hus, htr⟩ := hg
          obtain ⟨g1, g2⟩ := cells_get hus
          obtain ⟨cs, ⟨d1, d2⟩, d3⟩ := hP m (by omega) us _ htr
          have hgrp := grp_app (P := fun _ c => P c) (n := p) (m := 1) (k := k) (xs := cells) (ys := cs) c1 (by omega) c2 (fun i hi => by
            have : i = 0 := by omega
            subst this
            rw [Nat.zero_mul, List.drop_zero, List.take_of_length_le (by omega)]
            exact d3)
          refine ⟨cells ++ cs, hgrp.1, hgrp.2, fun i hi => ?_⟩
          by_cases hlt : i < cells.length
          · rw [List.getElem_append_left hlt]
            exact c3 i hlt
          · have hge : cells.length ≤ i := by omega
            have hi2 : i - cells.length < cs.length := by simp at hi; omega
            have hi3 : i - cells.length < us.length := by omega
            refine ⟨us[i - cells.length], ?_, ?_⟩
            · have := g2 (i - cells.length) hi3
              rw [add_none, add_none] at this
              rw [← this]
              congr 2
              omega
            · rw [List.getElem_append_right hge]
              exact d2 _ hi2 hi3
      obtain ⟨cells, c1, c2, c3⟩ := key len (Nat.le_refl _)
      refine ⟨[.lst cells len none], .one (.lst (fun i => (w.cell? ⟨b, o + i, none⟩).getD default) (fun _ => hzb) (fun i hi => ?_) (fun i hi => ?_) hlc (fun k hk => by simp at hk)), _, len, rfl, .inr ⟨cells, none, rfl, c1, c2⟩, by omega⟩
      · obtain ⟨v, hv, _⟩ := c3 i hi
        rw [hv]; rfl
      · obtain ⟨v, hv, hr⟩ := c3 i hi
        simp only [hv, Option.getD_some]
        exact hr

theorem Rd.imp {n : Nat} {t : TypeId} {P Q : List AV → Prop} (h : Rd enc w n t P) (hpq : ∀ c, P c → Q c) : Rd enc w n t Q := fun vs x hx => let ⟨cs, h1, h2⟩ := h vs x hx; ⟨cs, h1, hpq _ h2⟩

theorem rd_fields2 {n : Nat} {t : TypeId} {f0 f1 : Field} {k0 k1 : Nat} {P0 P1 : List AV → Prop} (hu : Tryz.prog.underlying t = some (.struct #[f0, f1])) (hoff : f0.offset = 0 ∧ f1.offset = k0) (hsz : Tryz.prog.cellsOf f0.type = k0 ∧ Tryz.prog.cellsOf f1.type = k1 ∧ Tryz.prog.cellsOf t = k0 + k1)
    (h0 : ∀ m, m < n → Rd enc w m f0.type P0) (h1 : ∀ m, m < n → Rd enc w m f1.type P1) : Rd enc w n t (fun cs => ∃ c0 c1, cs = c0 ++ c1 ∧ P0 c0 ∧ P1 c1) := by
  intro vs x h
  obtain ⟨xs, m, rfl, _, hl, hxl, hf⟩ := DataW.trod_struct hu h
  have g0 := hf 0 f0 rfl
  have g1 := hf 1 f1 rfl
  rw [List.getElem?_eq_getElem (by rw [hxl]; simp)] at g0 g1
  rw [hoff.1, hsz.1] at g0
  rw [hoff.2, hsz.2.1] at g1
  obtain ⟨c0, r0, p0⟩ := h0 m (by omega) _ _ g0
  obtain ⟨c1, r1, p1⟩ := h1 m (by omega) _ _ g1
  refine ⟨c0 ++ c1, ?_, c0, c1, rfl, p0, p1⟩
  have := r0.append r1
  rw [List.drop_zero] at this
  have e : vs.take k0 ++ (vs.drop k0).take k1 = vs := by
    rw [List.take_of_length_le (l := vs.drop k0) (by rw [List.length_drop, hl, hsz.2.2]; omega), List.take_append_drop]
  rw [e] at this
  exact this

theorem rd_fields3 {n : Nat} {t : TypeId} {f0 f1 f2 : Field} {k0 k1 k2 : Nat} {P0 P1 P2 : List AV → Prop} (hu : Tryz.prog.underlying t = some (.struct #[f0, f1, f2])) (hoff : f0.offset = 0 ∧ f1.offset = k0 ∧ f2.offset = k0 + k1)
    (hsz : Tryz.prog.cellsOf f0.type = k0 ∧ Tryz.prog.cellsOf f1.type = k1 ∧ Tryz.prog.cellsOf f2.type = k2 ∧ Tryz.prog.cellsOf t = k0 + k1 + k2)
    (h0 : ∀ m, m < n → Rd enc w m f0.type P0) (h1 : ∀ m, m < n → Rd enc w m f1.type P1) (h2 : ∀ m, m < n → Rd enc w m f2.type P2) : Rd enc w n t (fun cs => ∃ c0 c1 c2, cs = c0 ++ c1 ++ c2 ∧ P0 c0 ∧ P1 c1 ∧ P2 c2) := by
  intro vs x h
  obtain ⟨xs, m, rfl, _, hl, hxl, hf⟩ := DataW.trod_struct hu h
  have g0 := hf 0 f0 rfl
  have g1 := hf 1 f1 rfl
  have g2 := hf 2 f2 rfl
  rw [List.getElem?_eq_getElem (by rw [hxl]; simp)] at g0 g1 g2
  rw [hoff.1, hsz.1] at g0
  rw [hoff.2.1, hsz.2.1] at g1
  rw [hoff.2.2, hsz.2.2.1] at g2
  obtain ⟨c0, r0, p0⟩ := h0 m (by omega) _ _ g0
  obtain ⟨c1, r1, p1⟩ := h1 m (by omega) _ _ g1
  obtain ⟨c2, r2, p2⟩ := h2 m (by omega) _ _ g2
  refine ⟨c0 ++ c1 ++ c2, ?_, c0, c1, c2, rfl, p0, p1, p2⟩
  have := (r0.append r1).append r2
  rw [List.drop_zero] at this
  have e : vs.take k0 ++ (vs.drop k0).take k1 ++ (vs.drop (k0 + k1)).take k2 = vs := by
    rw [List.take_of_length_le (l := vs.drop (k0 + k1)) (by rw [List.length_drop, hl, hsz.2.2.2]; omega), ← List.take_add, List.take_append_drop]
  rw [e] at this
  exact this

theorem rd_fields4 {n : Nat} {t : TypeId} {f0 f1 f2 f3 : Field} {k0 k1 k2 k3 : Nat} {P0 P1 P2 P3 : List AV → Prop} (hu : Tryz.prog.underlying t = some (.struct #[f0, f1, f2, f3])) (hoff : f0.offset = 0 ∧ f1.offset = k0 ∧ f2.offset = k0 + k1 ∧ f3.offset = k0 + k1 + k2)
    (hsz : Tryz.prog.cellsOf f0.type = k0 ∧ Tryz.prog.cellsOf f1.type = k1 ∧ Tryz.prog.cellsOf f2.type = k2 ∧ Tryz.prog.cellsOf f3.type = k3 ∧ Tryz.prog.cellsOf t = k0 + k1 + k2 + k3)
    (h0 : ∀ m, m < n → Rd enc w m f0.type P0) (h1 : ∀ m, m < n → Rd enc w m f1.type P1) (h2 : ∀ m, m < n → Rd enc w m f2.type P2) (h3 : ∀ m, m < n → Rd enc w m f3.type P3) : Rd enc w n t (fun cs => ∃ c0 c1 c2 c3, cs = c0 ++ c1 ++ c2 ++ c3 ∧ P0 c0 ∧ P1 c1 ∧ P2 c2 ∧ P3 c3) := by
  intro vs x h
  obtain ⟨xs, m, rfl, _, hl, hxl, hf⟩ := DataW.trod_struct hu h
  have g0 := hf 0 f0 rfl
  have g1 := hf 1 f1 rfl
  have g2 := hf 2 f2 rfl
  have g3 := hf 3 f3 rfl
  rw [List.getElem?_eq_getElem (by rw [hxl]; simp)] at g0 g1 g2 g3
  rw [hoff.1, hsz.1] at g0
  rw [hoff.2.1, hsz.2.1] at g1
  rw [hoff.2.2.1, hsz.2.2.1] at g2
  rw [hoff.2.2.2, hsz.2.2.2.1] at g3
  obtain ⟨c0, r0, p0⟩ := h0 m (by omega) _ _ g0
  obtain ⟨c1, r1, p1⟩ := h1 m (by omega) _ _ g1
  obtain ⟨c2, r2, p2⟩ := h2 m (by omega) _ _ g2
  obtain ⟨c3, r3, p3⟩ := h3 m (by omega) _ _ g3
  refine ⟨c0 ++ c1 ++ c2 ++ c3, ?_, c0, c1, c2, c3, rfl, p0, p1, p2, p3⟩
  have := ((r0.append r1).append r2).append r3
  rw [List.drop_zero] at this
  have e : vs.take k0 ++ (vs.drop k0).take k1 ++ (vs.drop (k0 + k1)).take k2 ++ (vs.drop (k0 + k1 + k2)).take k3 = vs := by
    rw [List.take_of_length_le (l := vs.drop (k0 + k1 + k2)) (by rw [List.length_drop, hl, hsz.2.2.2.2]; omega), ← List.take_add, ← List.take_add, List.take_append_drop]
  rw [e] at this
  exact this

/-! ### The types of this program -/

theorem P3 : Tryz.prog.underlying 3 = some (.int .i64) := by kernel_rfl
theorem P22 : Tryz.prog.underlying 22 = some (.int .i64) := by kernel_rfl
theorem P4 : Tryz.prog.underlying 4 = some .bool := by kernel_rfl
theorem P198 : Tryz.prog.underlying 198 = some (.int .u32) := by kernel_rfl

theorem rd26 (n : Nat) : Rd enc w n 26 (fun cs => ∃ ng a la, cs = [.bool ng, a] ∧ LS 1 WdI a la ∧ la ≤ 9223372036854775807) := by
  refine (rd_fields2 (k0 := 1) (k1 := 1) Tryz.underlying26 ⟨rfl, rfl⟩ ⟨by kernel_rfl, by kernel_rfl, by kernel_rfl⟩ (fun m hm => rd_bool P4) (fun m hm => rd_slice (k := 1) P24 (by kernel_rfl) (by decide) fun m' _ => (rd_int P198).imp (Q := Wd) fun c ⟨x, e, _⟩ => ⟨x, e⟩)).imp ?_
  rintro cs ⟨c0, c1, rfl, ⟨ng, rfl⟩, a, la, rfl, h1, h2⟩
  exact ⟨ng, a, la, rfl, h1, h2⟩

theorem rd29 : ∀ (n : Nat), Rd enc w n 29 (fun cs => ∀ d, TP d cs) := by
  intro n
  induction n using Nat.strongRecOn with
  | _ n ih =>
    refine (rd_fields3 (k0 := 1) (k1 := 2) (k2 := 1) Tryz.underlying29 ⟨rfl, rfl, rfl⟩ ⟨by kernel_rfl, by kernel_rfl, by kernel_rfl, by kernel_rfl⟩ (fun m hm => rd_int P3) (fun m hm => rd26 m) (fun m hm => rd_slice (k := 4) P27 (by kernel_rfl) (by decide) fun m' hm' => ih m' (by omega))).imp ?_
    rintro cs ⟨c0, c1, c2, rfl, ⟨lv, rfl, _⟩, ⟨ng, a, la, rfl, h1, h2⟩, b, lb, rfl, h3, h4⟩ d
    cases d with
    | zero => exact ⟨lv, ng, a, b, la, lb, rfl, h1, h2, h3.imp fun _ _ _ _ => trivial, h4⟩
    | succ d => exact ⟨lv, ng, a, b, la, lb, rfl, h1, h2, h3.imp fun _ _ _ h => h d, h4⟩

theorem rd32 : ∀ (n : Nat), Rd enc w n 32 (fun cs => ∀ d, TM d cs) := by
  intro n
  induction n using Nat.strongRecOn with
  | _ n ih =>
    refine (rd_fields4 (k0 := 1) (k1 := 1) (k2 := 4) (k3 := 1) Tryz.underlying32 ⟨rfl, rfl, rfl, rfl⟩ ⟨by kernel_rfl, by kernel_rfl, by kernel_rfl, by kernel_rfl, by kernel_rfl⟩ (fun m hm => rd_int P3) (fun m hm => rd_int P22) (fun m hm => rd29 m) (fun m hm => rd_slice (k := 7) P30 (by kernel_rfl) (by decide) fun m' hm' => ih m' (by omega))).imp ?_
    rintro cs ⟨c0, c1, c2, c3, rfl, ⟨kd, rfl, _⟩, ⟨rl, rfl, _⟩, hp, kids, lk, rfl, h3, h4⟩ d
    obtain ⟨lv, ng, a, b, _, _, rfl, _⟩ := hp 0
    cases d with
    | zero => exact ⟨kd, rl, lv, ng, a, b, kids, lk, rfl, hp 6, h3.imp fun _ _ _ _ => trivial, h4⟩
    | succ d => exact ⟨kd, rl, lv, ng, a, b, kids, lk, rfl, hp 6, h3.imp fun _ _ _ h => h d, h4⟩

theorem rd50 (n : Nat) : Rd enc w n 50 TF := by
  refine (rd_fields4 (k0 := 1) (k1 := 1) (k2 := 1) (k3 := 7) Tryz.underlying50 ⟨rfl, rfl, rfl, rfl⟩ ⟨by kernel_rfl, by kernel_rfl, by kernel_rfl, by kernel_rfl, by kernel_rfl⟩ (fun m hm => rd_int P3) (fun m hm => rd_slice (k := 1) P47 (by kernel_rfl) (by decide) fun m' hm' => rd_bool P4) (fun m hm => rd_slice (k := 1) P48 (by kernel_rfl) (by decide) fun m' hm' => rd_str P9) (fun m hm => rd32 m)).imp ?_
  rintro cs ⟨c0, c1, c2, c3, rfl, ⟨fr, rfl, h1, h2⟩, ⟨al, la, rfl, h3, h4⟩, ⟨nm, ln, rfl, h5, h6⟩, h7⟩
  exact ⟨fr, al, nm, c3, la, ln, rfl, ⟨h1, h2⟩, h3, h4, h5, h6, h7 12⟩

end
end Go.AX

/- AX, part 62: the statement VirtualArgs. -/
set_option linter.unusedVariables false
set_option linter.unusedSimpArgs false
namespace Go.AX
open Go Go.RowKit Go.ChangeShapes

/-- As post_of_same, where it is known of old memory alone that it is as it was. -/
theorem post_of_below {H : Type} {enc : TypeId × Value → H} {P : Program} {f : Func} {s : ChangeSpec} {apart fresh handsOn again : Bool} {W W' : World} {args : Array Value} {v : Value} {ds gs : List (DataW H)} {before pa pv : List MemPlace}
    (hW : DataW.Whole enc P f.params.toList s.vars apart W args.toList ds gs before)
    (hres : ∀ (b : Nat) (sp : Nat → Bool) (hd : Bool), DataW.TrodAll enc P W' b sp hd f.resultTypes.toList (v.resultList f.resultTypes.size) (s.fn H (ds ++ gs)).results [])
    (hargs : ∀ sp : Nat → Bool, (∀ p ∈ before, sp p.block = true) → DataW.TrodAll enc P W' 0 sp true f.params.toList args.toList (s.fn H (ds ++ gs)).args pa)
    (hvars : ∀ sp : Nat → Bool, (∀ p ∈ before, sp p.block = true) → DataW.TrodVars enc P W' sp s.vars (s.fn H (ds ++ gs)).vars pv)
    (hps : before = pa ++ pv) (hb : Below W.heap.size W W')
    (hok : ∀ (j : Nat) (t : TypeId) (r : Value), f.resultTypes[j]? = some t → (v.resultList f.resultTypes.size)[j]? = some r → Value.okWide P W' .any 0 t r) :
    s.post enc P f apart fresh handsOn again W args v W' := by
  have hlt : ∀ p ∈ before, p.block < W.heap.size := fun p hp => by simpa using hW.lt p hp
  have hold : ∀ p ∈ before, (fun b => decide (b < W.heap.size)) p.block = true := fun p hp => by simpa using hW.lt p hp
  refine ⟨ds, gs, before, [], pa, pv, hW, hres _ _ _, hargs _ hold, hvars _ hold, World.keptBut_mono (fun p hp => ⟨hp, ?_⟩) (hb.frame (· ∈ before)), fun _ => ?_⟩
  · rw [hps, List.mem_append] at hp
    exact Or.inr hp
  · obtain ⟨_, _, _, _, _, hz, hn⟩ := hW
    refine ⟨hok, _, _, ([] ++ pa) ++ pv, ⟨[] ++ pa, pv, trodAll_append (hargs _ (fun _ _ => rfl)) (hres _ _ _), hvars _ (fun _ _ => rfl), rfl, ?_, ?_⟩, ?_⟩
    · intro b off hp
      have hp' : MemPlace.cell b off ∈ before := by rw [hps]; simpa using hp
      rw [hb.frozen (p := ⟨b, off, none⟩) (hlt _ hp')]
      exact hz b off hp'
    · intro ha
      have := hn ha
      rw [hps] at this
      simpa using this
    · intro p hp _
      rw [hps]
      simpa using hp

end Go.AX

namespace Go.Proofs.YtkkdpjmefjampaaGreat
open Go Go.RowKit Go.ChangeShapes Go.WideShapes Go.AX

theorem args_own : ownKnob Tryz.prog.godebug = none := by kernel_rfl
theorem args_laid : laidOutB Tryz.prog = true := by kernel_rfl

set_option maxRecDepth 100000 in
theorem args_contract (H : Type) (enc : TypeId × Value → H) (W : World) (base : Nat) (args : Array Value) (ds gs : List (DataW H)) (before : List MemPlace)
    (hval : ∀ (j : Nat) t v, Tryz.f4.params[j]? = some t → args[j]? = some v → Value.okWide Tryz.prog W .any base t v)
    (hW : DataW.Whole enc Tryz.prog Tryz.f4.params.toList Rows.virtualArgsSpec.vars false W args.toList ds gs before) :
    Calls Tryz.prog 4 args W fun e W' => ∃ v, e = .returned v ∧ Rows.virtualArgsSpec.post enc Tryz.prog Tryz.f4 false true false false W args v W' := by
  have hW' := hW
  obtain ⟨p, q, hA0, hV, rfl, hfz, hnd⟩ := hW
  have hA : DataW.TrodAll enc Tryz.prog W 0 (fun _ => true) true Tryz.f4.params.toList args.toList ds p := hA0
  rw [Tryz.params4] at hA hval
  obtain ⟨v0, v1, d0, d1, p0, p1, rfl, rfl, rfl, h0, h1⟩ := trodAll_two hA
  obtain ⟨rfl, rfl⟩ := trodVars_none hV
  obtain ⟨n, rfl, rfl, rfl, wn⟩ := open_int P3 (hval 1 3 v1 rfl rfl) h1
  have hv0 := hval 0 50 v0 rfl rfl
  unfold Value.okWide at hv0
  rw [Tryz.underlying50] at hv0
  obtain ⟨us, rfl, _, _⟩ := hv0
  obtain ⟨fuel, hf⟩ := h0
  obtain ⟨cs, ⟨hl, hr⟩, htf⟩ := rd50 (enc := enc) (w := W) fuel _ _ hf
  have hr0 : Rel (ZW W) W noRho (.agg cs) (.agg us) := by
    refine .agg (by simpa [Value.cells] using hl) fun i hi hi' => ?_
    have := hr i hi (by simpa [Value.cells] using hi')
    simpa [Value.cells] using this
  have hrel : RelA (ZW W) W noRho [.agg cs, .int .i64 n] #[.agg us, .int .i64 n] := by
    refine ⟨rfl, fun i hi hi' => ?_⟩
    match i, hi with
    | 0, _ => exact hr0
    | 1, _ => exact .int .i64 n
  obtain ⟨r, hpure, rfl⟩ := (args_con cs n htf).2
  have hlt : ∀ x ∈ p0, x.block < W.heap.size := fun x hx => by simpa using hW'.lt x (by simp [hx])
  refine (hpure W (ZW W) _ (fun b h => h) hrel).mono fun e W' ⟨v, Z', he, hb, _, _, _, hv⟩ => ?_
  cases hv
  subst he
  refine ⟨_, rfl, post_of_below (pa := p0 ++ ([] ++ [])) (pv := []) hW' (fun _ _ _ => trodAll_cons_mk (shut_bool P4 _) trodAll_mk0) (fun sp hsp => ?_) (fun _ _ => rfl) (by simp) hb (ok_one (by kernel_rfl) rfl (okWide_bool_mk P4 _))⟩
  exact trodAll_cons_mk (WideElems.Trod_stays args_laid (by kernel_rfl) (of_decide_eq_true (by kernel_rfl)) ⟨fuel, hf⟩ (fun x hx => hb.same (hlt x hx)) fun x hx => hsp x (by simp [hx])) (trodAll_cons_mk (shut_int P3 wn) trodAll_mk0)

set_option maxRecDepth 100000 in
theorem args_lifted (os : Os) (started : os.Started) (H : Type) (enc : TypeId × Value → H) :
    ReturnsInHanded {} Tryz.checked os 4 .any (Rows.virtualArgsSpec.pre6 enc Tryz.prog Tryz.f4 Rows.virtualArgsRow.domain false) (Rows.virtualArgsSpec.post enc Tryz.prog Tryz.f4 false true false false) := by
  refine returnsInHanded_of_change (C := Tryz.checked) args_own started (by kernel_rfl) Tryz.func4
    (ChangeSpec.witness6 (enc := enc) (C := Tryz.checked) false ⟨#[], #[.agg #[.int .i64 0, .slice none 0 0, .slice none 0 0, .int .i64 0, .int .i64 0, .int .i64 0, .bool false, .slice none 0 0, .slice none 0 0, .slice none 0 0], .int .i64 0], []⟩ 8 (by kernel_rfl) (by kernel_rfl) (by kernel_rfl) (by kernel_rfl)) ?_
  intro W base args ds gs before hval hW _ _
  exact args_contract H enc W base args ds gs before hval hW

theorem args_over : Rows.virtualArgsRow.holds Tryz.pinned (OpenSpec.ofChange Rows.virtualArgsSpec) :=
  OpenClaim.holds_of_wide 4 Tryz.f4 rfl rfl rfl rfl rfl rfl rfl ⟨rfl, rfl, rfl, rfl, rfl⟩ rfl rfl rfl rfl rfl (by kernel_rfl) Tryz.func4 (by kernel_rfl)
    (of_decide_eq_true (by kernel_rfl)) (by unfold Func.isWrapper; first | (rw [if_pos (by decide +kernel)]; kernel_rfl) | (rw [if_neg (by decide +kernel)]; exact ⟨rfl, rfl⟩))
    (fun os started H enc _ => args_lifted os started H enc)

theorem virtual_args : Rows.VirtualArgsSaid := args_over
#print axioms virtual_args
end Go.Proofs.YtkkdpjmefjampaaGreat
