/- AX, part 8: operations that make or change memory. -/
import Derived.Test.YtkkdpjmefjampaaGreatA1
import Derived.Laws.MakeOwn
import Derived.Deep.AppendSrc
import Derived.Deep.Upon
import Derived.RangeFuncLeaves
import Derived.RangeFuncNested
import Derived.Scope
set_option linter.unusedVariables false
set_option linter.unusedSimpArgs false
namespace Go.AX
open Go Go.RowKit

def Loud (P : Program) (B : Nat) (Z : Nat → Prop) (w : World) (ρ : Rho) (H : Heap) (s : Sem Next) (r : AV) (H' : Heap) : Prop :=
  ∃ (x : Next) (v : Value) (w' : World) (Z' : Nat → Prop) (ρ' : Rho), s.run P w = .ok x w' ∧ (x = .value v ∨ (x = .skip ∧ v = Go.undef)) ∧ Ext B Z w ρ H.length Z' w' ρ' ∧ HRel B Z' w' ρ' H' ∧ Rel Z' w' ρ' r v ∧ H.length ≤ H'.length

section
variable {P : Program} {Z : Nat → Prop} {w : World} {ρ : Rho} {B : Nat} {H : Heap}

theorem Loud.of_value {s : Sem Value} {r : AV} {H' : Heap} {v : Value} {w' : World} {Z' : Nat → Prop} {ρ' : Rho} (h : s.run P w = .ok v w') (e : Ext B Z w ρ H.length Z' w' ρ') (hH : HRel B Z' w' ρ' H') (hr : Rel Z' w' ρ' r v) (hl : H.length ≤ H'.length) :
    Loud P B Z w ρ H (do pure (.value (← s))) r H' := ⟨_, v, w', Z', ρ', by simp only [Sem.run_bind, h, Result.andThen_ok]; rfl, .inl rfl, e, hH, hr, hl⟩

theorem Quiet.loud {s : Sem Next} {r : AV} (h : Quiet P Z w ρ s r) (hH : HRel B Z w ρ H) : Loud P B Z w ρ H s r H := by
  obtain ⟨v, h1, h2⟩ := h
  exact ⟨_, v, w, Z, ρ, h1, .inl rfl, Ext.refl .., hH, h2, Nat.le_refl _⟩

theorem all_one {cs : List AV} (h : cs.all oneCell = true) (i : Nat) (hi : i < cs.length) : oneCell cs[i] = true := by
  rw [List.all_eq_true] at h; exact h _ (List.getElem_mem hi)

/-- A new block out of cells that are known. -/
theorem new_step (hH : HRel B Z w ρ H) {cs : List AV} {c : Array Value} (t : TypeId) (hc : RelA Z w ρ cs c) (h1 : cs.all oneCell = true) :
    Ext B Z w ρ H.length Z (w.alloc (.cells c t)) (upd ρ H.length (w.heap.size, 0)) ∧ HRel B Z (w.alloc (.cells c t)) (upd ρ H.length (w.heap.size, 0)) (H ++ [.cells cs]) :=
  hH.alloc (Nat.le_of_eq hc.1) fun i hi => ⟨c[i]'(hc.1 ▸ hi), by simp [hc.1 ▸ hi], hc.2 i hi (hc.1 ▸ hi), all_one h1 i hi⟩

theorem ptr_new (Z : Nat → Prop) (w' : World) (ρ : Rho) (n b : Nat) : Rel Z w' (upd ρ n (b, 0)) (.ptr n 0) (.pointer (some ⟨b, 0, none⟩)) := .ptr (upd_same ρ n (b, 0))

theorem loud_new (hH : HRel B Z w ρ H) {cs : List AV} {c : Array Value} (t : TypeId) (hc : RelA Z w ρ cs c) {id : Nat} {H' : Heap} (hn : newA H cs = some (id, H')) :
    Loud P B Z w ρ H (do pure (.value (← (do pure (.pointer (some (← newRow t c))))))) (.ptr id 0) H' := by
  unfold newA at hn
  split at hn
  · rename_i h1
    simp at hn
    obtain ⟨rfl, rfl⟩ := hn
    obtain ⟨e, h2⟩ := new_step hH t hc h1
    exact Loud.of_value (v := .pointer (some ⟨w.heap.size, 0, none⟩)) (by simp only [newRow, Sem.run_bind, run_newObj, Result.andThen_ok, Sem.run_pure, World.alloc_eq]) e h2 (ptr_new ..) (by simp)
  · simp at hn

/-- copies as the model writes them. -/
theorem copies_rel {z : List AV} {zv : Array Value} (hz : RelA Z w ρ z zv) : ∀ (n : Nat), (copies n z).length = n * z.length ∧ ∀ i (h : i < (copies n z).length), Rel Z w ρ (copies n z)[i] (zv[i % zv.size]!) := by
  intro n
  induction n with
  | zero => simp [copies]
  | succ n ih =>
    refine ⟨by simp [copies, ih.1, Nat.add_mul, Nat.add_comm], fun i hi => ?_⟩
    simp only [copies] at hi ⊢
    by_cases h : i < z.length
    · rw [List.getElem_append_left h]
      have h' : i < zv.size := hz.1 ▸ h
      rw [Nat.mod_eq_of_lt h', getElem!_pos zv i h']
      exact hz.2 i h h'
    · rw [List.getElem_append_right (by omega)]
      have := ih.2 (i - z.length) (by simp at hi; omega)
      have e : i % zv.size = (i - z.length) % zv.size := by
        rw [← hz.1]
        exact Nat.mod_eq_sub_mod (by omega)
      rw [e]
      exact this

theorem range_rel {z : List AV} {zv : Array Value} (hz : RelA Z w ρ z zv) (n : Nat) : RelA Z w ρ (copies n z) ((Array.range (n * zv.size)).map (zv[· % zv.size]!)) := by
  obtain ⟨h1, h2⟩ := copies_rel hz n
  refine ⟨by simp [h1, hz.1], fun i hi hi' => ?_⟩
  simpa using h2 i hi

theorem storeA_loud (hH : HRel B Z w ρ H) {t : TypeId} {p v : AV} {H' : Heap} (h : storeA P H t p v = some H') {vp vv : Value} (hp : Rel Z w ρ p vp) (hv : Rel Z w ρ v vv) :
    Loud P B Z w ρ H (do Instr.storeAt t vp vv; pure .skip) .undef H' := by
  unfold storeA at h
  split at h <;> try (simp at h; done)
  rename_i id off
  split at h <;> try (simp at h; done)
  rename_i cs hcs
  split at h <;> try (simp at h; done)
  rename_i hc
  split at h <;> try (simp at h; done)
  rename_i cs' hw
  simp at h
  subst h
  simp only [Bool.and_eq_true, decide_eq_true_eq] at hc
  obtain ⟨hsz, hone⟩ := hc
  cases hp with
  | ptr hr =>
    rename_i b base
    obtain ⟨nz, old, t', hwb, hle, hcell⟩ := hH.cells id cs b base hcs hr
    have hcv := cells_rel hv
    obtain ⟨hlew, _⟩ := writeAt_eq hw
    obtain ⟨hl1, hg1⟩ := writeAt_get hw
    have hvs : vv.cells.toList.length = v.cells.length := by simp [hcv.1]
    have hts : vv.cells.toList.length = vv.cells.size := by simp
    have h1c : ∀ x ∈ vv.cells.toList, x.oneCell' = true := by
      intro x hx
      obtain ⟨i, hi, rfl⟩ := List.getElem_of_mem hx
      have hi' : i < v.cells.length := by omega
      have := rel_oneCell (hcv.2 i hi' (by simpa using hi)) (all_one hone i hi')
      simpa using this
    have hst := run_storeCells_at (P := P) b (base + off) t' vv.cells.toList 0 old w hwb (by omega) h1c
    simp only [Nat.add_zero] at hst
    have hnew : ((old.toList.take (base + off) ++ vv.cells.toList ++ old.toList.drop (base + off + vv.cells.toList.length)).toArray).size = old.size := by
      simp; omega
    obtain ⟨e, hH'⟩ := hH.set (cs' := cs') hcs hr hwb hnew hl1 (fun i hi => by
      rcases hg1 i hi with ⟨g1, g2, g3⟩ | ⟨g1, g2, g3⟩
      · have g2' : i - off < vv.cells.size := hcv.1 ▸ g2
        refine ⟨vv.cells[i - off], ?_, by rw [g3]; exact hcv.2 _ g2 g2', by rw [g3]; exact all_one hone _ g2⟩
        simp only [List.getElem?_toArray]
        rw [List.getElem?_append_left (by simp; omega), List.getElem?_append_right (by simp; omega)]
        simp only [List.length_take, Array.length_toList]
        rw [show base + i - min (base + off) old.size = i - off by omega]
        simp [g2']
      · obtain ⟨x, k1, k2, k3⟩ := hcell i g2
        refine ⟨x, ?_, by rw [g3]; exact k2, by rw [g3]; exact k3⟩
        simp only [List.getElem?_toArray]
        rcases g1 with g1 | g1
        · rw [List.getElem?_append_left (by simp; omega), List.getElem?_append_left (by simp; omega), List.getElem?_take, if_pos (by omega)]
          simpa using k1
        · rw [List.getElem?_append_right (by simp; omega), List.getElem?_drop]
          simp only [List.length_append, List.length_take, Array.length_toList]
          rw [show base + off + vv.cells.size + (base + i - (min (base + off) old.size + vv.cells.size)) = base + i by omega]
          simpa using k1)
    refine ⟨.skip, Go.undef, _, Z, ρ, ?_, .inr ⟨rfl, rfl⟩, e, hH', rel_undef, by simp⟩
    have hsz' : ¬ (vv.cells.size ≠ v.cells.length) := by rw [hcv.1]; simp
    simp only [Instr.storeAt, Instr.sureAddr, storeVar, Sem.run_bind, Sem.run_pure, Result.andThen_ok, run_sizeOf' hsz, hsz', if_false, hst]

theorem makeSlice_loud (hH : HRel B Z w ρ H) {t e : TypeId} (hu : P.underlying t = some (.slice e)) {x y : AV} {l c s b : Nat} {z : AV} (hl : asNat x = some l) (hc : asNat y = some c) (hs : sizeT P e = some s) (hb : bytesT P e = some b) (hz : zeroT P e = some z)
    (h1 : l ≤ c) (h2 : c * b ≤ roomA) (h3 : z.cells.length = s) (h4 : z.cells.all oneCell = true) (h5 : 0 < s) (h6 : 0 < b) {vx vy : Value} (hx : Rel Z w ρ x vx) (hy : Rel Z w ρ y vy) :
    Loud P B Z w ρ H (do pure (.value (← Instr.makeSlice t vx vy))) (.sl H.length 0 l s (some c)) (H ++ [.cells (copies c z.cells)]) := by
  obtain ⟨k1, i1, rfl, p1, rfl⟩ := asNat_int hl hx
  obtain ⟨k2, i2, rfl, p2, rfl⟩ := asNat_int hc hy
  obtain ⟨i, hi, rfl⟩ := info_of_size hs
  have hbi : i.bytes = b := by simpa [bytesT, hi] using hb
  obtain ⟨zv, hzr, hzv⟩ := run_zero' hz w
  have hiz : i.zero = some zv := by
    unfold zeroValue typeInfo at hzr
    cases hz0 : i.zero with
    | none => simp [hi, hz0, Sem.run_bind] at hzr
    | some z0 => simp [hi, hz0, Sem.run_bind] at hzr; rw [hzr]
  have hcb : i2.toNat ≤ i2.toNat * b := Nat.le_mul_of_pos_right _ h6
  have hroom : i2.toNat * b ≤ 35184372088832 := h2
  have hbytes : (i.bytes : Int) * i2 ≤ 281474976710656 := by
    have h1 : ((b * i2.toNat : Nat) : Int) ≤ 281474976710656 := by rw [Nat.mul_comm]; omega
    rw [Int.natCast_mul, Int.toNat_of_nonneg p2] at h1
    rw [hbi]; exact h1
  have hr := run_make (P := P) w t e i zv hu hi hiz k1 k2 i1 i2 p1 (by omega) hbytes (by omega)
  have hzc := cells_rel (rel_ofValue (Z := Z) (w := w) (ρ := ρ) hzv)
  have hcp := range_rel hzc i2.toNat
  have hsz : zv.cells.size = i.size := by rw [← hzc.1]; exact h3
  have hone : (copies i2.toNat z.cells).all oneCell = true := by
    generalize i2.toNat = m
    induction m with
    | zero => rfl
    | succ m ih => simp [copies, h4, ih]
  have hmade : madeCells zv.cells (i2.toNat * i.size) = (Array.range (i2.toNat * zv.cells.size)).map (zv.cells[· % zv.cells.size]!) := by rw [← hsz]; rfl
  rw [hmade] at hr
  obtain ⟨e1, hH'⟩ := new_step hH e hcp hone
  refine Loud.of_value hr e1 hH' ?_ (by simp)
  refine .sl (base := 0) (t := e) (n := ((Array.range (i2.toNat * zv.cells.size)).map (zv.cells[· % zv.cells.size]!)).size) (upd_same ..) ?_ h1 (fun _ => rfl) ?_ (fun k hk => by simp at hk; exact hk)
  · unfold World.shape?; rw [alloc_new]
  · simp [hsz]

end
end Go.AX

/- AX, part 9: append, copy; all operations but calls. -/
set_option linter.unusedVariables false
set_option linter.unusedSimpArgs false
namespace Go.AX
open Go Go.RowKit

section
variable {P : Program} {Z : Nat → Prop} {w : World} {ρ : Rho} {B : Nat} {H : Heap}

/-- A row of cells, as a list of values. -/
theorem CellsAt.list {b o : Nat} {cs : List AV} (h : CellsAt Z w ρ b o cs) : ∃ vs : List Value, vs.length = cs.length ∧ (∀ j u, vs[j]? = some u → w.cell? ((⟨b, o, none⟩ : Addr).add j) = some u) ∧
    ∀ i (hi : i < cs.length) (hi' : i < vs.length), Rel Z w ρ cs[i] vs[i] := by
  obtain ⟨f, h1, h2⟩ := h
  refine ⟨(List.range cs.length).map f, by simp, fun j u hj => ?_, fun i hi hi' => by simpa using h2 i hi⟩
  rw [add_plain]
  by_cases hl : j < cs.length
  · simp [hl] at hj; subst hj; exact h1 j hl
  · simp [hl] at hj

theorem one_list {cs : List AV} {vs : List Value} (hl : vs.length = cs.length) (h : ∀ i (hi : i < cs.length) (hi' : i < vs.length), Rel Z w ρ cs[i] vs[i]) (h1 : cs.all oneCell = true) : ∀ u ∈ vs, u.oneCell' = true := by
  intro u hu
  obtain ⟨i, hi, rfl⟩ := List.getElem_of_mem hu
  exact rel_oneCell (h i (by omega) hi) (all_one h1 i (by omega))

def srcOK (P : Program) (u : TypeId) (x : AV) : Bool :=
  match P.underlying u, x with
  | some (.slice _), .nilsl | some (.slice _), .sl .. | some (.slice _), .lst .. | some .string, .str _ => true
  | _, _ => false

/-- What is appended. -/
theorem src_rel (hH : HRel B Z w ρ H) {u : TypeId} {x : AV} (hk : srcOK P u x = true)
    {size n : Nat} {new : List AV} (hn : lenA x = some n) (hc : AX.cellsOf H size n x = some new) (h1 : new.all oneCell = true) {vx : Value} (hx : Rel Z w ρ x vx) :
    ∃ news : List Value, Src P size u vx n news w ∧ news.length = new.length ∧ new.length = n * size ∧ ∀ i (hi : i < new.length) (hi' : i < news.length), Rel Z w ρ new[i] news[i] := by
  unfold srcOK at hk
  cases hx with
  | nilsl =>
    split at hk <;> simp_all [AX.cellsOf, lenA]
    subst hn
    rename_i e hu
    exact ⟨[], Src.ofNil w hu 0, rfl, by simp, fun i hi => by simp at hi⟩
  | sl r1 r2 r3 r4 r5 r6 =>
    rename_i id off len sz cap b base o c t m
    simp only [lenA, Option.some.injEq] at hn
    subst hn
    simp only [AX.cellsOf] at hc
    split at hc
    · rename_i cs hcs
      split at hc
      · rename_i hle
        simp only [Option.some.injEq] at hc
        subst hc
        split at hk <;> try (simp at hk; done)
        · rename_i heq; simp at heq
        · rename_i e _ _ _ _ _ hu heq
          have hlen : ((cs.drop off).take (len * size)).length = len * size := by simp; omega
          obtain ⟨vs, v1, v2, v3⟩ := ((hH.at hcs r1).sub off (len * size)).list
          have hone := one_list v1 v3 h1
          refine ⟨vs, ?_, v1, hlen, v3⟩
          refine Src.ofSlice w hu ⟨b, o, none⟩ len c vs (by omega) (fun j u' hj => ?_) hone
          have hjl : j < vs.length := by
            rcases Nat.lt_or_ge j vs.length with h | h
            · exact h
            · rw [List.getElem?_eq_none h] at hj; simp at hj
          have hlen0 : len ≠ 0 := by
            intro h0
            subst h0
            simp at hlen
            rw [v1] at hjl
            simp at hjl
          rw [r4 (by omega)]
          exact v2 j u' hj
        · rename_i heq; simp at heq
        · rename_i heq; simp at heq
      · simp at hc
    · simp at hc
  | lst vs0 hz hcell hrel r3 r6 =>
    rename_i cs len cap b o c
    simp only [lenA, Option.some.injEq] at hn
    subst hn
    simp only [AX.cellsOf] at hc
    split at hc
    · rename_i hle
      simp only [Option.some.injEq] at hc
      subst hc
      split at hk <;> try (simp at hk; done)
      · rename_i heq; simp at heq
      · rename_i heq; simp at heq
      · rename_i e _ _ _ hu heq
        have hlen : (cs.take (len * size)).length = len * size := by simp; omega
        obtain ⟨vs, v1, v2, v3⟩ := ((CellsAt.weaken ⟨vs0, hcell, hrel⟩ ρ).sub 0 (len * size)).list
        simp only [List.drop_zero, Nat.add_zero] at v1 v2 v3
        exact ⟨vs, Src.ofSlice w hu ⟨b, o, none⟩ len c vs (by omega) v2 (one_list v1 v3 h1), v1, hlen, v3⟩
      · rename_i heq; simp at heq
    · simp at hc
  | lst0 a h0 =>
    simp only [lenA, Option.some.injEq] at hn
    subst hn
    simp only [AX.cellsOf] at hc
    split at hc
    · simp only [Option.some.injEq] at hc
      subst hc
      split at hk <;> try (simp at hk; done)
      · rename_i heq; simp at heq
      · rename_i heq; simp at heq
      · rename_i e _ _ _ hu heq
        exact ⟨[], Src.ofSlice w hu a 0 0 [] (by simp) (fun j u hj => by simp at hj) (fun u hu => by simp at hu), by simp, by simp, fun i hi => by simp at hi⟩
      · rename_i heq; simp at heq
    · simp at hc
  | str s =>
    simp only [lenA, Option.some.injEq] at hn
    subst hn
    simp only [AX.cellsOf] at hc
    split at hc
    · rename_i hs1
      subst hs1
      simp only [Option.some.injEq] at hc
      subst hc
      split at hk <;> try (simp at hk; done)
      · rename_i heq; simp at heq
      · rename_i heq; simp at heq
      · rename_i heq; simp at heq
      · rename_i hu heq
        have hsz : s.data.toList.length = s.size := by rw [Array.length_toList]; rfl
        refine ⟨byteCells s, Src.ofString w hu s, ?_, ?_, fun i hi hi' => ?_⟩
        · rw [byteCells_length, List.length_map, List.length_take, hsz, Nat.min_self]
        · rw [List.length_map, List.length_take, hsz, Nat.min_self, Nat.mul_one]
        · simp only [byteCells, List.getElem_map, List.getElem_take]
          exact .int _ _
    · simp at hc
  | _ => simp [lenA] at hn

theorem grow_le (need : Nat) : ∀ (r c : Nat), 256 ≤ c → c ≤ 2 * need → Builtin.growBy need r c ≤ 2 * need := by
  intro r
  induction r with
  | zero => intro c _ h; simpa [Builtin.growBy] using h
  | succ r ih =>
    intro c h1 h2
    simp only [Builtin.growBy]
    split
    · exact h2
    · exact ih _ (by omega) (by omega)

theorem nextcap_le {need c : Nat} (h : c < need) : Builtin.nextslicecap need c ≤ 2 * need := by
  unfold Builtin.nextslicecap
  split
  · omega
  · split
    · omega
    · exact grow_le need 4 c (by omega) (by omega)

theorem grownCap_ge (w : World) (need old : Nat) (e : TypeId) : need ≤ grownCap w need old e := by
  show need ≤ need + _
  omega

/-- The append that must make a new array. -/
theorem append_grow (hH : HRel B Z w ρ H) {t u ty e : TypeId} (ht : P.underlying t = some (.slice e)) {i : TypeInfo} {z : Value} (hi : P.info? e = some i) (hz : i.zero = some z) (hzs : z.cells.size = i.size) {vx : Value} {n : Nat} {news : List Value} {new old : List AV} (hs : Src P i.size u vx n news w)
    (hnl : news.length = new.length) (hnn : new.length = n * i.size) (hnr : ∀ j (hj : j < new.length) (hj' : j < news.length), Rel Z w ρ new[j] news[j]) (hn1 : new.all oneCell = true)
    {a : Option Addr} {len c : Nat} {olds : List Value} (hol : olds.length = old.length) (hon : old.length = len * i.size) (hor : ∀ j (hj : j < old.length) (hj' : j < olds.length), Rel Z w ρ old[j] olds[j]) (ho1 : old.all oneCell = true)
    (hrun : (Builtin.firstCells i.size len (.slice a len c)).run P w.drew = .ok olds.toArray w.drew) (hg : c < len + n) (hroom : (len + n) * i.bytes ≤ roomA) (hb0 : 0 < i.bytes) {H' : Heap} (hH' : H'.length = H.length) (hHH : HRel B Z w ρ H') :
    Loud P B Z w ρ H (do pure (.value (← Builtin.append_ #[t, u] ty #[.slice a len c, vx]))) (.sl H.length 0 (len + n) i.size none) (H' ++ [.cells (old ++ new)]) := by
  have hroom' : (len + n) * i.bytes ≤ 35184372088832 := hroom
  have hcb : len + n ≤ (len + n) * i.bytes := Nat.le_mul_of_pos_right _ hb0
  have hcap : Builtin.nextslicecap (len + n) c * i.bytes ≤ 281474976710656 := by
    have h1 := Nat.mul_le_mul_right i.bytes (nextcap_le hg)
    have h2 : 2 * (len + n) * i.bytes = 2 * ((len + n) * i.bytes) := by rw [Nat.mul_assoc]
    omega
  have hr := run_append_grow_src (P := P) w t u ty e i z ht hi hz a len c olds hrun vx n news hs hg (by omega) hcap
  have hge := grownCap_ge w (len + n) c e
  generalize grownCap w (len + n) c e = g at hr hge
  have hd : HRel B Z w.drew ρ H' := hHH.drew
  obtain ⟨e1, h2⟩ := hd.alloc (cs := old ++ new) (c := (olds ++ news).toArray ++ Builtin.zeroCells z.cells (g - (len + n))) (t := e) (by simp; omega) (fun j hj => by
    have hjo : j < (olds ++ news).length := by simp at hj ⊢; omega
    refine ⟨(olds ++ news)[j], ?_, ?_, ?_⟩
    · rw [Array.getElem?_append_left (by simpa using hjo)]
      simp [hjo]
    · refine Rel.heap (w := w) (w' := w.drew) rfl ?_
      by_cases h : j < old.length
      · rw [List.getElem_append_left h, List.getElem_append_left (by omega)]
        exact hor j h (by omega)
      · rw [List.getElem_append_right (by omega), List.getElem_append_right (by omega)]
        simp only [hol]
        exact hnr _ _ _
    · by_cases h : j < old.length
      · rw [List.getElem_append_left h]; exact all_one ho1 j h
      · rw [List.getElem_append_right (by omega)]; exact all_one hn1 _ _)
  rw [hH'] at e1 h2
  have hds : w.drew.heap.size = w.heap.size := rfl
  refine Loud.of_value hr ((Ext.drew H.length).trans e1 (Nat.le_refl _)) h2 ?_ (by simp; omega)
  refine .sl (base := 0) (t := e) (n := ((olds ++ news).toArray ++ Builtin.zeroCells z.cells (g - (len + n))).size) (upd_same ..) ?_ hge (fun _ => rfl) ?_ (fun k hk => by simp at hk)
  · unfold World.shape?; rw [show w.heap.size = w.drew.heap.size from rfl, alloc_new]
  · have hzl : (Builtin.zeroCells z.cells (g - (len + n))).size = (g - (len + n)) * i.size := by simp [Builtin.zeroCells, hzs]
    simp only [Array.size_append, List.size_toArray, List.length_append, hzl, Nat.zero_add]
    have : len * i.size + n * i.size + (g - (len + n)) * i.size = g * i.size := by
      rw [← Nat.add_mul, ← Nat.add_mul]; congr 1; omega
    omega

/-- The append for which there is room. -/
theorem append_room (hH : HRel B Z w ρ H) {t u ty e : TypeId} (ht : P.underlying t = some (.slice e)) {i : TypeInfo} (hi : P.info? e = some i) {vx : Value} {n : Nat} {news : List Value} {new old cs : List AV} (hs : Src P i.size u vx n news w)
    (hnl : news.length = new.length) (hnn : new.length = n * i.size) (hnr : ∀ j (hj : j < new.length) (hj' : j < news.length), Rel Z w ρ new[j] news[j]) (hn1 : new.all oneCell = true)
    {id off len b base o c t' m : Nat} (hcs : H[id]? = some (.cells cs)) (r1 : ρ id = some (b, base)) (r2 : w.shape? b = some (t', m)) (r4 : o = base + off) (r5 : base + off + c * i.size ≤ m)
    (hold : old = (cs.drop off).take (len * i.size)) (hle : off + len * i.size ≤ cs.length) (hg : len + n ≤ c) (cap : Option Nat) (hcap : ∀ k, cap = some k → c = k) :
    Loud P B Z w ρ H (do pure (.value (← Builtin.append_ #[t, u] ty #[.slice (some ⟨b, o, none⟩) len c, vx]))) (.sl H.length 0 (len + n) i.size cap) (H.set id .dead ++ [.cells (old ++ new)]) := by
  obtain ⟨nz, cur, t2, hw, hcl, hcell⟩ := hH.cells id cs b base hcs r1
  have hm : m = cur.size := by unfold World.shape? at r2; rw [hw] at r2; simp at r2; exact r2.2.symm
  subst hm
  have hcm : (len + n) * i.size ≤ c * i.size := Nat.mul_le_mul_right _ hg
  rw [Nat.add_mul] at hcm
  have hol : old.length = len * i.size := by rw [hold]; simp; omega
  have hst := run_storeCells_at (P := P) b (base + off + len * i.size) t2 news 0 cur w hw (by omega) hs.one
  simp only [Nat.add_zero] at hst
  generalize hnew : (cur.toList.take (base + off + len * i.size) ++ news ++ cur.toList.drop (base + off + len * i.size + news.length)).toArray = cur' at hst
  have hsz : cur'.size = cur.size := by rw [← hnew]; simp; omega
  have hrun : (Builtin.append_ #[t, u] ty #[.slice (some ⟨b, o, none⟩) len c, vx]).run P w = .ok (.slice (some ⟨b, o, none⟩) (len + n) c) (w.setRow b cur') := by
    subst r4
    rcases hs.kind with ⟨e', hk⟩ | hk <;> simp [Builtin.append_, run_underlying ht, run_underlying hk, sizeOf, typeInfo, hi, hs.len, hg, hs.cells, add_plain, hst]
  obtain ⟨e1, h2⟩ := hH.over (off := off) (cs' := old ++ new) hcs r1 hw hsz (by simp; omega) (fun j hj => by
    simp at hj
    by_cases h : j < old.length
    · obtain ⟨v, k1, k2, k3⟩ := hcell (off + j) (by omega)
      have e0 : (old ++ new)[j]'(by simp; omega) = cs[off + j]'(by omega) := by
        rw [List.getElem_append_left h]; simp [hold]
      refine ⟨v, ?_, by rw [e0]; exact k2, by rw [e0]; exact k3⟩
      rw [← hnew]
      simp only [List.getElem?_toArray]
      rw [List.getElem?_append_left (by simp; omega), List.getElem?_append_left (by simp; omega), List.getElem?_take, if_pos (by omega)]
      rw [Nat.add_assoc]
      simpa using k1
    · have hj2 : j - old.length < new.length := by omega
      have e0 : (old ++ new)[j]'(by simp; omega) = new[j - old.length] := by rw [List.getElem_append_right (by omega)]
      refine ⟨news[j - old.length]'(by omega), ?_, by rw [e0]; exact hnr _ hj2 (by omega), by rw [e0]; exact all_one hn1 _ hj2⟩
      rw [← hnew]
      simp only [List.getElem?_toArray]
      rw [List.getElem?_append_left (by simp; omega), List.getElem?_append_right (by simp; omega)]
      simp only [List.length_take, Array.length_toList]
      rw [show base + off + j - min (base + off + len * i.size) cur.size = j - old.length by omega]
      simp [show j - old.length < news.length by omega])
  refine Loud.of_value hrun e1 h2 ?_ (by simp)
  refine .sl (upd_same ..) (e1.shape _ _ r2) hg (fun _ => by omega) (by omega) hcap

end
end Go.AX

/- AX, part 10: all operations but calls. -/
set_option linter.unusedVariables false
set_option linter.unusedSimpArgs false
namespace Go.AX
open Go Go.RowKit

section
variable {P : Program} {Z : Nat → Prop} {w : World} {ρ : Rho} {B : Nat} {H : Heap}

/-- The first elements of a slice. -/
theorem first_run (hH : HRel B Z w ρ H) {size n : Nat} {x : AV} {new : List AV} (hs : isSlice x = true) (hn : ∃ m, lenA x = some m ∧ n ≤ m) (hc : AX.cellsOf H size n x = some new) {vx : Value} (hx : Rel Z w ρ x vx) :
    ∃ news : List Value, (∀ w' : World, w'.heap = w.heap → (Builtin.firstCells size n vx).run P w' = .ok news.toArray w') ∧ news.length = new.length ∧ new.length = n * size ∧ ∀ i (hi : i < new.length) (hi' : i < news.length), Rel Z w ρ new[i] news[i] := by
  obtain ⟨m, hm, hnm⟩ := hn
  cases hx with
  | nilsl =>
    simp only [lenA, Option.some.injEq] at hm
    simp only [AX.cellsOf, Option.some.injEq] at hc
    subst hc
    obtain rfl : n = 0 := by omega
    exact ⟨[], fun w' _ => rfl, rfl, by simp, fun i hi => by simp at hi⟩
  | sl r1 r2 r3 r4 r5 r6 =>
    rename_i id off len sz cap b base o c t m'
    simp only [lenA, Option.some.injEq] at hm
    subst hm
    simp only [AX.cellsOf] at hc
    split at hc
    · rename_i cs hcs
      split at hc
      · rename_i hle
        simp only [Option.some.injEq] at hc
        subst hc
        have hlen : ((cs.drop off).take (n * size)).length = n * size := by simp; omega
        obtain ⟨vs, v1, v2, v3⟩ := ((hH.at hcs r1).sub off (n * size)).list
        refine ⟨vs, fun w' hw' => ?_, v1, hlen, v3⟩
        show (loadCells ⟨b, o, none⟩ (n * size)).run P w' = _
        rw [show n * size = vs.length by omega]
        refine run_loadCells_list w' _ vs (fun j u hj => ?_)
        have hjl : j < vs.length := by
          rcases Nat.lt_or_ge j vs.length with h | h
          · exact h
          · rw [List.getElem?_eq_none h] at hj; simp at hj
        have hn0 : n ≠ 0 := by
          intro h0
          subst h0
          simp at hlen
          rw [v1] at hjl
          simp at hjl
        have := v2 j u hj
        rw [r4 (by omega)]
        unfold World.cell? at this ⊢
        rw [hw']
        exact this
      · simp at hc
    · simp at hc
  | lst vs0 hz hcell hrel r3 r6 =>
    rename_i cs len cap b o c
    simp only [lenA, Option.some.injEq] at hm
    subst hm
    simp only [AX.cellsOf] at hc
    split at hc
    · rename_i hle
      simp only [Option.some.injEq] at hc
      subst hc
      have hlen : (cs.take (n * size)).length = n * size := by simp; omega
      obtain ⟨vs, v1, v2, v3⟩ := ((CellsAt.weaken ⟨vs0, hcell, hrel⟩ ρ).sub 0 (n * size)).list
      simp only [List.drop_zero, Nat.add_zero] at v1 v2 v3
      refine ⟨vs, fun w' hw' => ?_, v1, hlen, v3⟩
      show (loadCells ⟨b, o, none⟩ (n * size)).run P w' = _
      rw [show n * size = vs.length by omega]
      refine run_loadCells_list w' _ vs (fun j u hj => ?_)
      have := v2 j u hj
      unfold World.cell? at this ⊢
      rw [hw']
      exact this
    · simp at hc
  | lst0 a h0 =>
    simp only [lenA, Option.some.injEq] at hm
    subst hm
    obtain rfl : n = 0 := by omega
    simp only [AX.cellsOf] at hc
    split at hc
    · simp only [Option.some.injEq] at hc
      subst hc
      refine ⟨[], fun w' _ => ?_, by simp, by simp, fun i hi => by simp at hi⟩
      show (loadCells a (0 * size)).run P w' = _
      rw [Nat.zero_mul]
      rfl
    · simp at hc
  | _ => simp [isSlice] at hs

theorem info_zero {t : TypeId} {i : TypeInfo} (hi : P.info? t = some i) {z : AV} (hz : zeroT P t = some z) : ∃ v, i.zero = some v ∧ ofValue v = some z := by
  unfold zeroT at hz
  simp only [hi, Option.bind_some] at hz
  cases h : i.zero with
  | none => simp [h] at hz
  | some v => exact ⟨v, rfl, by simpa [h] using hz⟩

theorem appendA_loud (hH : HRel B Z w ρ H) {t u ty : TypeId} {s x r : AV} {H' : Heap} (h : appendA P H t s x = some (r, H'))
    (hk : srcOK P u x = true) {vs vx : Value} (hs : Rel Z w ρ s vs) (hx : Rel Z w ρ x vx) :
    Loud P B Z w ρ H (do pure (.value (← Builtin.append_ #[t, u] ty #[vs, vx]))) r H' := by
  unfold appendA at h
  split at h <;> try (simp at h; done)
  rename_i e ht
  split at h <;> try (simp at h; done)
  rename_i size bytes n hsz hby hn
  split at h <;> try (simp at h; done)
  rename_i new hnew
  by_cases c1 : (!new.all oneCell) = true
  · rw [if_pos c1] at h; simp at h
  rw [if_neg c1] at h
  have hn1 : new.all oneCell = true := by simpa using c1
  obtain ⟨i, hi, rfl⟩ := info_of_size hsz
  have hbi : i.bytes = bytes := by simpa [bytesT, hi] using hby
  subst hbi
  obtain ⟨news, hsrc, hnl, hnn, hnr⟩ := src_rel hH hk hn hnew hn1 hx
  by_cases hn0 : n = 0
  · rw [if_pos hn0] at h
    subst hn0
    have hne : new = [] := by have : new.length = 0 := by omega
                              exact List.length_eq_zero_iff.1 this
    subst hne
    obtain rfl : news = [] := List.length_eq_zero_iff.1 (by simpa using hnl)
    split at h <;> simp at h
    · obtain ⟨rfl, rfl⟩ := h
      cases hs
      exact Loud.of_value (run_append_nothing w t u ty e i ht hi none 0 0 (Nat.le_refl _) vx hsrc) (Ext.refl ..) hH .nilsl (Nat.le_refl _)
    · obtain ⟨rfl, rfl⟩ := h
      cases hs with
      | sl r1 r2 r3 r4 r5 r6 => exact Loud.of_value (run_append_nothing w t u ty e i ht hi _ _ _ r3 vx hsrc) (Ext.refl ..) hH (.sl r1 r2 r3 r4 r5 r6) (Nat.le_refl _)
    · obtain ⟨rfl, rfl⟩ := h
      cases hs with
      | lst vs0 q1 q2 q3 q4 q5 => exact Loud.of_value (run_append_nothing w t u ty e i ht hi _ _ _ q4 vx hsrc) (Ext.refl ..) hH (.lst vs0 q1 q2 q3 q4 q5) (Nat.le_refl _)
      | lst0 a h0 => exact Loud.of_value (run_append_nothing w t u ty e i ht hi _ _ _ (Nat.le_refl 0) vx hsrc) (Ext.refl ..) hH (.lst0 a h0) (Nat.le_refl _)
  · rw [if_neg hn0] at h
    by_cases hz1 : ((zeroT P e).all fun z => z.cells.length != i.size) = true
    · rw [if_pos hz1] at h; simp at h
    rw [if_neg hz1] at h
    obtain ⟨z, hz, hzl⟩ : ∃ z, zeroT P e = some z ∧ z.cells.length = i.size := by
      cases hz : zeroT P e with
      | none => simp [hz] at hz1
      | some z => refine ⟨z, rfl, ?_⟩; simpa [hz] using hz1
    obtain ⟨zv, hzv, hzo⟩ := info_zero hi hz
    have hzs : zv.cells.size = i.size := by rw [← (cells_rel (rel_ofValue (Z := Z) (w := w) (ρ := ρ) hzo)).1]; exact hzl
    split at h <;> try (simp at h; done)
    · -- nil
      split at h <;> try (simp at h; done)
      rename_i hc
      simp only [Bool.and_eq_true, decide_eq_true_eq] at hc
      simp at h
      obtain ⟨rfl, rfl⟩ := h
      cases hs
      have := append_grow (ty := ty) hH ht hi hzv hzs hsrc hnl hnn hnr hn1 (a := none) (len := 0) (c := 0) (olds := []) (old := []) rfl (by simp) (fun j hj => by simp at hj) rfl rfl (by omega) (by simpa using hc.1) hc.2 (H' := H) rfl hH
      simpa using this
    · -- lst
      rename_i cs len cap
      split at h <;> try (simp at h; done)
      rename_i hc
      simp only [Bool.and_eq_true, decide_eq_true_eq] at hc
      simp at h
      obtain ⟨rfl, rfl⟩ := h
      obtain ⟨⟨⟨⟨c1, c2⟩, c3⟩, c4⟩, c5⟩ := hc
      have hs0 := hs
      cases hs with
      | lst vs0 q1 q2 q3 q4 q5 =>
        rename_i b o c
        have hcc : c = cap := q5 cap rfl
        obtain ⟨olds, o1, o2, o3, o4⟩ := first_run (P := P) hH (size := i.size) (n := len) (x := .lst cs len (some cap)) (new := cs.take (len * i.size)) rfl ⟨len, rfl, Nat.le_refl _⟩ (by simp [AX.cellsOf, c4]) hs0
        exact append_grow hH ht hi hzv hzs hsrc hnl hnn hnr hn1 o2 o3 o4 c5 (o1 w.drew rfl) (by omega) c2 c3 (H' := H) rfl hH
      | lst0 a h0 =>
        have hcc : cap = 0 := h0 cap rfl
        obtain ⟨olds, o1, o2, o3, o4⟩ := first_run (P := P) hH (size := i.size) (n := 0) (x := .lst [] 0 (some cap)) (new := [].take (0 * i.size)) rfl ⟨0, rfl, Nat.le_refl _⟩ (by simp [AX.cellsOf]) hs0
        exact append_grow hH ht hi hzv hzs hsrc hnl hnn hnr hn1 o2 o3 o4 c5 (o1 w.drew rfl) (by omega) c2 c3 (H' := H) rfl hH
    · -- sl
      rename_i id off len sz cap
      split at h <;> try (simp at h; done)
      rename_i hc
      simp only [Bool.and_eq_true, decide_eq_true_eq] at hc
      obtain ⟨⟨c1, c2⟩, c3⟩ := hc
      subst c1
      split at h <;> try (simp at h; done)
      rename_i old hold
      have hs0 := hs
      obtain ⟨olds, o1, o2, o3, o4⟩ := first_run (P := P) hH (size := i.size) (n := len) (x := .sl id off len i.size cap) rfl ⟨len, rfl, Nat.le_refl _⟩ hold hs0
      simp only [AX.cellsOf] at hold
      split at hold <;> try (simp at hold; done)
      rename_i cs hcs
      split at hold <;> try (simp at hold; done)
      rename_i hle
      simp only [Option.some.injEq] at hold
      cases hs with
      | sl r1 r2 r3 r4 r5 r6 =>
        rename_i b base o c t' m
        have hone : old.all oneCell = true := by
          rw [← hold, List.all_eq_true]
          intro y hy
          obtain ⟨j, hj, rfl⟩ := List.getElem_of_mem hy
          obtain ⟨_, _, _, _, _, hcell⟩ := hH.cells id cs b base hcs r1
          obtain ⟨v, _, _, k3⟩ := hcell (off + j) (by simp at hj; omega)
          simpa using k3
        split at h
        · rename_i k
          have hck : c = k := r6 k rfl
          split at h
          · rename_i hlt
            simp at h
            obtain ⟨rfl, rfl⟩ := h
            exact append_grow hH ht hi hzv hzs hsrc hnl hnn hnr hn1 o2 o3 o4 hone (o1 w.drew rfl) (by omega) c2 c3 (H' := H) rfl hH
          · rename_i hlt
            simp at h
            obtain ⟨rfl, rfl⟩ := h
            exact append_room hH ht hi hsrc hnl hnn hnr hn1 hcs r1 r2 (r4 (by omega)) r5 hold.symm hle (by omega) _ r6
        · simp at h
          obtain ⟨rfl, rfl⟩ := h
          by_cases hlt : c < len + n
          · exact append_grow hH ht hi hzv hzs hsrc hnl hnn hnr hn1 o2 o3 o4 hone (o1 w.drew rfl) hlt c2 c3 (H' := H.set id .dead) (by simp) (hH.dead id)
          · exact append_room hH ht hi hsrc hnl hnn hnr hn1 hcs r1 r2 (r4 (by omega)) r5 hold.symm hle (by omega) none (fun k hk => by simp at hk)

theorem lenOf_run {x : AV} {n : Nat} (h : lenA x = some n) {vx : Value} (hx : Rel Z w ρ x vx) (w' : World) : (Builtin.lenOf vx).run P w' = .ok n w' := by
  cases hx <;> simp [lenA] at h <;> subst h <;> rfl

theorem copyA_loud (hH : HRel B Z w ρ H) {t u ty : TypeId} {d x r : AV} {H' : Heap} (h : copyA P H t d x = some (r, H')) {vd vx : Value} (hd : Rel Z w ρ d vd) (hx : Rel Z w ρ x vx) :
    Loud P B Z w ρ H (do pure (.value (← Builtin.copy_ #[t, u] ty #[vd, vx]))) r H' := by
  unfold copyA at h
  by_cases c1 : (!isSlice x) = true
  · rw [if_pos c1] at h; simp at h
  rw [if_neg c1] at h
  have hsl : isSlice x = true := by simpa using c1
  split at h <;> try (simp at h; done)
  rename_i e ht
  split at h <;> try (simp at h; done)
  rename_i size n hsz hn
  split at h <;> try (simp at h; done)
  · rename_i id off len sz cap
    split at h <;> try (simp at h; done)
    rename_i hs
    subst hs
    split at h <;> try (simp at h; done)
    rename_i cs new hcs hnew
    split at h <;> try (simp at h; done)
    rename_i hone
    split at h <;> try (simp at h; done)
    rename_i cs' hw
    simp at h
    obtain ⟨rfl, rfl⟩ := h
    obtain ⟨news, n1, n2, n3, n4⟩ := first_run (P := P) hH (n := min n len) hsl ⟨n, hn, Nat.min_le_left _ _⟩ hnew hx
    cases hd with
    | sl r1 r2 r3 r4 r5 r6 =>
      rename_i b base o c t' m
      have hl := lenOf_run (P := P) hn hx w
      obtain ⟨nz, old, t2, hwb, hle, hcell⟩ := hH.cells id cs b base hcs r1
      obtain ⟨hlew, _⟩ := writeAt_eq hw
      obtain ⟨hl1, hg1⟩ := writeAt_get hw
      by_cases hc0 : c = 0
      · have hlen0 : len = 0 := by omega
        subst hlen0
        have hnew0 : new = [] := List.length_eq_zero_iff.1 (by rw [n3]; simp)
        subst hnew0
        obtain rfl : news = [] := List.length_eq_zero_iff.1 (by simpa using n2)
        have hcs' : cs' = cs := by
          obtain ⟨_, h2⟩ := writeAt_eq hw
          rw [h2]; simp
        subst hcs'
        have hset : H.set id (.cells cs') = H := by
          apply List.ext_getElem?
          intro j
          by_cases hj : id = j
          · subst hj; rw [List.getElem?_set_self (hH.dom _ _ r1), hcs]
          · rw [List.getElem?_set_ne hj]
        rw [hset]
        refine Loud.of_value (v := .int .i64 (min n 0 : Nat)) (w' := w) ?_ (Ext.refl ..) hH (.int _ _) (Nat.le_refl _)
        have := n1 w rfl
        simp only [Builtin.copy_, Sem.run_bind, run_underlying ht, run_sizeOf' hsz, hl, Result.andThen_ok, List.getElem?_toArray, List.getElem?_cons_zero, List.getElem?_cons_succ]
        simp only [show (n.min 0) = min n 0 from rfl, this, Result.andThen_ok, storeCells, Sem.run_pure, goInt]
      · have ho := r4 hc0
        subst ho
        have hst := run_storeCells_at (P := P) b (base + off) t2 news 0 old w hwb (by omega) (one_list n2 n4 hone)
        simp only [Nat.add_zero] at hst
        generalize hnw : (old.toList.take (base + off) ++ news ++ old.toList.drop (base + off + news.length)).toArray = old' at hst
        have hsz' : old'.size = old.size := by rw [← hnw]; simp; omega
        obtain ⟨e1, hH'⟩ := hH.set (cs' := cs') hcs r1 hwb hsz' hl1 (fun i hi => by
          rcases hg1 i hi with ⟨g1, g2, g3⟩ | ⟨g1, g2, g3⟩
          · have g2' : i - off < news.length := by omega
            refine ⟨news[i - off], ?_, by rw [g3]; exact n4 _ g2 g2', by rw [g3]; exact all_one hone _ g2⟩
            rw [← hnw]
            simp only [List.getElem?_toArray]
            rw [List.getElem?_append_left (by simp; omega), List.getElem?_append_right (by simp; omega)]
            simp only [List.length_take, Array.length_toList]
            rw [show base + i - min (base + off) old.size = i - off by omega]
            simp [g2']
          · obtain ⟨x, k1, k2, k3⟩ := hcell i g2
            refine ⟨x, ?_, by rw [g3]; exact k2, by rw [g3]; exact k3⟩
            rw [← hnw]
            simp only [List.getElem?_toArray]
            rcases g1 with g1 | g1
            · rw [List.getElem?_append_left (by simp; omega), List.getElem?_append_left (by simp; omega), List.getElem?_take, if_pos (by omega)]
              simpa using k1
            · rw [List.getElem?_append_right (by simp; omega), List.getElem?_drop]
              simp only [List.length_append, List.length_take, Array.length_toList]
              rw [show base + off + news.length + (base + i - (min (base + off) old.size + news.length)) = base + i by omega]
              simpa using k1)
        refine Loud.of_value (v := .int .i64 (min n len : Nat)) (w' := w.setRow b old') ?_ e1 hH' (.int _ _) (by simp)
        have := n1 w rfl
        simp only [Builtin.copy_, Sem.run_bind, run_underlying ht, run_sizeOf' hsz, hl, Result.andThen_ok, List.getElem?_toArray, List.getElem?_cons_zero, List.getElem?_cons_succ]
        simp only [show (n.min len) = min n len from rfl, this, Result.andThen_ok, hst, Sem.run_pure, goInt]
  · simp at h
    obtain ⟨rfl, rfl⟩ := h
    cases hd
    have hl := lenOf_run (P := P) hn hx w
    have h0 : ∃ new, AX.cellsOf H size 0 x = some new ∨ True := ⟨[], .inr trivial⟩
    have hf : ∃ vs : Array Value, (Builtin.firstCells size 0 vx).run P w = .ok vs w := by
      cases hx <;> simp [isSlice] at hsl
      · exact ⟨#[], rfl⟩
      all_goals exact ⟨#[], by simp [Builtin.firstCells, loadCells, loadCellsFrom]⟩
    obtain ⟨vs, hf⟩ := hf
    refine Loud.of_value (v := .int .i64 0) (w' := w) ?_ (Ext.refl ..) hH (.int _ _) (Nat.le_refl _)
    simp only [Builtin.copy_, Sem.run_bind, run_underlying ht, run_sizeOf' hsz, hl, Result.andThen_ok, List.getElem?_toArray, List.getElem?_cons_zero, List.getElem?_cons_succ]
    simp only [show (n.min 0) = 0 from Nat.min_zero n, hf, Result.andThen_ok, Sem.run_pure, goInt]
    rfl

end
end Go.AX

/- AX, part 11: all operations but calls, in one; values that are handed to functions that only compute. -/
set_option linter.unusedVariables false
set_option linter.unusedSimpArgs false
namespace Go.AX
open Go Go.RowKit

section
variable {Z : Nat → Prop} {w : World} {ρ : Rho} {B : Nat} {H : Heap}

theorem op_loud {E : Env} {R : Rec} {T : List AV} {H' : Heap} {o : Oper} {a : Act} {r : AV} (hT : RelA Z w ρ T a.tmps) (hH : HRel B Z w ρ H) (hnc : ∀ c f, o.op = .call c → c.callee ≠ .value f) (h : axOp E R T H o = some (r, H')) :
    Loud E.P B Z w ρ H (execOp a.eval o) r H' := by
  by_cases hq : quietOp o.op = true
  · obtain ⟨rfl, h2⟩ := quiet_sound hT hH hq h
    exact h2.loud hH
  obtain ⟨dst, op, type, pos, after, guard⟩ := o
  cases op with
  | alloc e =>
    simp only [axOp] at h
    split at h <;> try (simp at h; done)
    rename_i z hz
    split at h <;> try (simp at h; done)
    rename_i id H2 hn
    simp at h
    obtain ⟨rfl, rfl⟩ := h
    obtain ⟨zv, hzr, hzv⟩ := run_zero' hz w
    have := loud_new hH e (cells_rel (rel_ofValue (Z := Z) (w := w) (ρ := ρ) hzv)) hn (P := E.P)
    obtain ⟨x, v, w', Z', ρ', g1, g2⟩ := this
    refine ⟨x, v, w', Z', ρ', ?_, g2⟩
    simp only [execOp, Instr.alloc, Sem.run_bind, hzr, Result.andThen_ok, newVar] at g1 ⊢
    exact g1
  | box e x =>
    simp only [axOp] at h
    split at h <;> try (simp at h; done)
    rename_i v hv
    split at h <;> try (simp at h; done)
    rename_i id H2 hn
    simp at h
    obtain ⟨rfl, rfl⟩ := h
    exact loud_new hH e (cells_rel (ev_rel hT hv)) hn (P := E.P)
  | buildSlice t len parts =>
    simp only [axOp] at h
    split at h <;> try (simp at h; done)
    rename_i ps e hps hu
    split at h <;> try (simp at h; done)
    rename_i s z hs hz
    split at h <;> try (simp at h; done)
    rename_i hc
    simp only [Bool.and_eq_true, decide_eq_true_eq] at hc
    obtain ⟨⟨c1, c2⟩, c3⟩ := hc
    split at h <;> try (simp at h; done)
    rename_i cs hf
    split at h <;> try (simp at h; done)
    rename_i id H2 hn
    simp at h
    obtain ⟨rfl, rfl⟩ := h
    obtain ⟨zv, hzr, hzv⟩ := run_zero' hz w
    have hzc := cells_rel (rel_ofValue (Z := Z) (w := w) (ρ := ρ) hzv)
    have hzs : zv.cells.size = s := by rw [← hzc.1]; exact c2
    obtain ⟨us, hus, hrel⟩ := fill_rel (place' := fun i => some (i * s, s)) (fun i x hx => hx) (evParts_rel hT hps) (range_rel hzc len) hf
    unfold newA at hn
    split at hn <;> try (simp at hn; done)
    rename_i hone
    simp at hn
    obtain ⟨rfl, rfl⟩ := hn
    obtain ⟨e1, h2⟩ := new_step hH e hrel hone
    have hlen : cs.length = len * s := by
      have h1 : ∀ (ps : List (Nat × AV)) (cs r : List AV), fillA (fun i => some (i * s, s)) cs ps = some r → r.length = cs.length := by
        intro ps
        induction ps with
        | nil => intro cs r h; simp [fillA] at h; rw [h]
        | cons p ps ih =>
          intro cs r h
          obtain ⟨i, v⟩ := p
          simp only [fillA] at h
          split at h <;> try (simp at h; done)
          split at h <;> try (simp at h; done)
          rename_i c' hw
          rw [ih _ _ h, (writeAt_get hw).1]
      rw [h1 _ _ _ hf, (copies_rel hzc len).1, c2]
    refine Loud.of_value (v := .slice (some ⟨w.heap.size, 0, none⟩) len len) ?_ e1 h2 ?_ (by simp)
    · by_cases hl0 : len = 0
      · subst hl0
        simp only [Instr.buildSlice, Sem.run_bind, run_underlying hu, Result.andThen_ok, run_sizeOf' hs]
        have hr0 : ∀ (f : Nat → Value), Array.map f (Array.range 0) = #[] := fun f => Array.eq_empty_of_size_eq_zero (by simp)
        have hus' : Instr.fill (fun i => some (i * s, s)) #[] (List.map (fun x => (x.fst, a.eval x.snd)) parts.toList) = some us := by
          simpa [hr0] using hus
        have hus2 : Instr.fill (fun i => some (i * s, s)) (Array.map (fun x => default) (Array.range 0)) (List.map (fun x => (x.fst, a.eval x.snd)) parts.toList) = some us := by
          rw [hr0]; exact hus'
        simp [Sem.run_bind, hus', hus2, newRow]
      · have hne : ¬ (len * s = 0) := by
          intro h0
          rcases Nat.mul_eq_zero.1 h0 with h | h <;> omega
        have hle : ¬ (len * s > 2 ^ 24) := by omega
        simp only [Instr.buildSlice, Sem.run_bind, run_underlying hu, Result.andThen_ok, run_sizeOf' hs, hle, if_false, hne, hzr, Sem.run_pure, hzs]
        rw [hzs] at hus
        have hus' : Instr.fill (fun i => some (i * s, s)) (Array.map (fun x => zv.cells[x % s]!) (Array.range (len * s))) (List.map (fun x => (x.fst, a.eval x.snd)) parts.toList) = some us := by
          simpa using hus
        simp [Sem.run_bind, hus', newRow, hle, hne, hzr, hzs]
    · refine .sl (base := 0) (t := e) (n := us.size) (upd_same ..) ?_ (Nat.le_refl _) (fun _ => rfl) ?_ (fun k hk => by simp at hk; exact hk)
      · unfold World.shape?; rw [alloc_new]
      · rw [← hrel.1, hlen]; omega
  | store t p x =>
    simp only [axOp] at h
    split at h <;> try (simp at h; done)
    rename_i vp vx hvp hvx
    split at h <;> try (simp at h; done)
    rename_i H2 hst
    simp at h
    obtain ⟨rfl, rfl⟩ := h
    exact storeA_loud hH hst (ev_rel hT hvp) (ev_rel hT hvx)
  | makeSlice t l c =>
    simp only [axOp] at h
    split at h <;> try (simp at h; done)
    rename_i x y e hx hy hu
    split at h <;> try (simp at h; done)
    rename_i l' c' s b z hl hc hs hb hz
    split at h <;> try (simp at h; done)
    rename_i hcond
    simp only [Bool.and_eq_true, decide_eq_true_eq] at hcond
    obtain ⟨⟨⟨⟨⟨c1, c2⟩, c3⟩, c4⟩, c5⟩, c6⟩ := hcond
    simp at h
    obtain ⟨rfl, rfl⟩ := h
    exact makeSlice_loud hH hu hl hc hs hb hz c1 c2 c3 c4 c5 c6 (ev_rel hT hx) (ev_rel hT hy)
  | call c =>
    obtain ⟨callee, args, ats⟩ := c
    cases callee with
    | value f => exact absurd rfl (hnc _ f rfl)
    | invoke r m =>
      simp only [axOp] at h
      split at h <;> simp at h
    | builtin b =>
      simp only [axOp] at h
      split at h <;> try (simp at h; done)
      rename_i as has
      have hra := evs_relA hT has
      have hrun : ∀ (w : World), (execOp a.eval ⟨dst, .call ⟨.builtin b, args, ats⟩, type, pos, after, guard⟩).run E.P w = (builtin b ats type (args.map fun | .const _ => true | _ => false) (args.map a.eval)).run E.P w := fun w => rfl
      obtain ⟨ats⟩ := ats
      simp only at h
      generalize hvs : args.map a.eval = vs at hra hrun
      obtain ⟨vs⟩ := vs
      unfold builtinA at h
      split at h <;> try (simp at h; done)
      · simp [quietOp] at hq
      · rename_i t u s x
        have hl := hra.1
        simp at hl
        match vs, hl with
        | [v1, v2], _ =>
          have hsr : Rel Z w ρ s v1 := by have := hra.2 0 (by simp) (by simp); simpa using this
          have hxr : Rel Z w ρ x v2 := by have := hra.2 1 (by simp) (by simp); simpa using this
          have hh : appendA E.P H t s x = some (r, H') ∧ srcOK E.P u x = true := by
            unfold srcOK
            split at h <;> first | (simp at h; done) | (rename_i hu; rw [hu]; exact ⟨h, rfl⟩)
          obtain ⟨x', v', w', Z', ρ', g1, g2⟩ := appendA_loud (ty := type) hH hh.1 hh.2 hsr hxr
          exact ⟨x', v', w', Z', ρ', by rw [hrun]; exact g1, g2⟩
      · rename_i t u s x
        have hl := hra.1
        simp at hl
        match vs, hl with
        | [v1, v2], _ =>
          have hsr : Rel Z w ρ s v1 := by have := hra.2 0 (by simp) (by simp); simpa using this
          have hxr : Rel Z w ρ x v2 := by have := hra.2 1 (by simp) (by simp); simpa using this
          obtain ⟨x', v', w', Z', ρ', g1, g2⟩ := copyA_loud (u := u) (ty := type) hH h hsr hxr
          exact ⟨x', v', w', Z', ρ', by rw [hrun]; exact g1, g2⟩
      · simp [quietOp] at hq
      · simp [quietOp] at hq
  | _ => first | (simp [quietOp] at hq; done) | (simp [axOp] at h; done)

/-! ### Views -/

theorem viewL_rel {f : AV → Option (AV × List Nat)} {Zc : Nat → Prop} {w : World} {ρ : Rho} {Q : Nat → Prop}
    (hf : ∀ v v' ids x, f v = some (v', ids) → Rel Z w ρ v x → (∀ id ∈ ids, Q id) → Rel Zc w noRho v' x) : ∀ (vs : List AV) (xs : List AV) (ids : List Nat), viewL f vs = some (xs, ids) → (∀ id ∈ ids, Q id) →
    xs.length = vs.length ∧ ∀ i (h : i < xs.length) (h' : i < vs.length) (y : Value), Rel Z w ρ vs[i] y → Rel Zc w noRho xs[i] y
  | [], xs, ids, h, _ => by simp [viewL] at h; obtain ⟨rfl, rfl⟩ := h; simp
  | v :: vs, xs, ids, h, hq => by
    simp only [viewL] at h
    split at h <;> try (simp at h; done)
    rename_i y is ys js h1 h2
    simp at h
    obtain ⟨rfl, rfl⟩ := h
    obtain ⟨hl, hr⟩ := viewL_rel hf vs ys js h2 (fun id hid => hq id (by simp [hid]))
    refine ⟨by simp [hl], fun i hi hi' y hy => ?_⟩
    cases i with
    | zero => exact hf v _ is y h1 hy (fun id hid => hq id (by simp [hid]))
    | succ i => exact hr i (by simpa using hi) (by simpa using hi') y hy

theorem view_rel (hH : HRel B Z w ρ H) {Zc : Nat → Prop} (hz : ∀ b, Z b → Zc b) : ∀ (n : Nat) (v v' : AV) (ids : List Nat) (x : Value), view H n v = some (v', ids) → Rel Z w ρ v x →
    (∀ id ∈ ids, ∀ b base, ρ id = some (b, base) → Zc b) → Rel Zc w noRho v' x
  | 0, _, _, _, _, h, _, _ => by simp [view] at h
  | n + 1, v, v', ids, x, h, hr, hids => by
    have ih := viewL_rel (f := view H n) (Zc := Zc) (w := w) (ρ := ρ) (Z := Z) (Q := fun id => ∀ b base, ρ id = some (b, base) → Zc b) (fun v v' ids x h1 h2 h3 => view_rel hH hz n v v' ids x h1 h2 h3)
    have frozen : ∀ {v : AV} {x : Value}, Rel Z w noRho v x → Rel Zc w noRho v x := fun h => h.mono' hz (fun _ _ => rfl) (fun _ _ h => h) noRho (fun _ _ h => h)
    simp only [view] at h
    split at h
    · simp at h; obtain ⟨rfl, rfl⟩ := h; cases hr; exact .bool _
    · simp at h; obtain ⟨rfl, rfl⟩ := h; cases hr; exact .int _ _
    · simp at h; obtain ⟨rfl, rfl⟩ := h; cases hr; exact .str _
    · simp at h; obtain ⟨rfl, rfl⟩ := h; cases hr; exact .nilptr
    · simp at h; obtain ⟨rfl, rfl⟩ := h; cases hr; exact .nilsl
    · simp at h; obtain ⟨rfl, rfl⟩ := h; cases hr; exact .nilfunc
    · simp at h; obtain ⟨rfl, rfl⟩ := h; cases hr; exact .nilif
    · simp at h; obtain ⟨rfl, rfl⟩ := h
      cases hr with
      | lst vs q1 q2 q3 q4 q5 => exact .lst vs (fun h => hz _ (q1 h)) q2 (fun i hi => frozen (q3 i hi)) q4 q5
      | lst0 a h0 => exact .lst0 a h0
    · simp at h; obtain ⟨rfl, rfl⟩ := h
      cases hr with
      | cptr vs q1 q2 q3 => exact .cptr vs (fun h => hz _ (q1 h)) q2 (fun i hi => frozen (q3 i hi))
    · split at h <;> try (simp at h; done)
      rename_i xs is hv
      simp at h; obtain ⟨rfl, rfl⟩ := h
      cases hr with
      | agg g1 g2 =>
        obtain ⟨i1, i2⟩ := ih _ _ _ hv hids
        exact .agg (i1.trans g1) (fun i hi hi' => i2 i hi (by omega) _ (g2 i (by omega) hi'))
    · split at h <;> try (simp at h; done)
      rename_i xs is hv
      simp at h; obtain ⟨rfl, rfl⟩ := h
      cases hr with
      | tup g1 g2 =>
        obtain ⟨i1, i2⟩ := ih _ _ _ hv hids
        exact .tup (i1.trans g1) (fun i hi hi' => i2 i hi (by omega) _ (g2 i (by omega) hi'))
    · split at h <;> try (simp at h; done)
      rename_i y is hv
      simp at h; obtain ⟨rfl, rfl⟩ := h
      cases hr with
      | iface _ g => exact .iface _ (view_rel hH hz n _ _ _ _ hv g hids)
    · rename_i id off len sz cap
      split at h <;> try (simp at h; done)
      rename_i cs hcs
      split at h <;> try (simp at h; done)
      rename_i hle
      split at h <;> try (simp at h; done)
      rename_i xs is hv
      simp at h; obtain ⟨rfl, rfl⟩ := h
      cases hr with
      | sl r1 r2 r3 r4 r5 r6 =>
        rename_i b base o c t m
        obtain ⟨i1, i2⟩ := ih _ _ _ hv (fun id' hid => hids id' (by simp [hid]))
        obtain ⟨vs, v1, v2⟩ := (hH.at hcs r1).sub off (len * sz)
        have hzb : Zc b := hids id (by simp) b base r1
        by_cases hc0 : c = 0
        · have hl0 : len = 0 := by omega
          subst hl0
          have : xs.length = 0 := by rw [i1]; simp
          refine .lst vs (fun _ => hzb) (fun i hi => by omega) (fun i hi => by omega) r3 r6
        · rw [r4 hc0]
          exact .lst vs (fun _ => hzb) (fun i hi => v1 i (by omega)) (fun i hi => i2 i hi (by omega) _ (v2 i (by omega))) r3 r6
    · rename_i f first captured
      split at h <;> try (simp at h; done)
      rename_i xs is ys js h1 h2
      simp at h; obtain ⟨rfl, rfl⟩ := h
      cases hr with
      | func hf g1 g2 g3 g4 =>
        cases hf
        obtain ⟨i1, i2⟩ := ih _ _ _ h1 (fun id hid => hids id (by simp [hid]))
        obtain ⟨j1, j2⟩ := ih _ _ _ h2 (fun id hid => hids id (by simp [hid]))
        exact .func (.func f) (i1.trans g1) (fun i hi hi' => i2 i hi (by omega) _ (g2 i (by omega) hi')) (j1.trans g3) (fun i hi hi' => j2 i hi (by omega) _ (g4 i (by omega) hi'))
    · simp at h

theorem viewL_ids {f : AV → Option (AV × List Nat)} {Q : Nat → Prop} (hf : ∀ v v' ids, f v = some (v', ids) → ∀ id ∈ ids, Q id) : ∀ (vs xs : List AV) (ids : List Nat), viewL f vs = some (xs, ids) → ∀ id ∈ ids, Q id
  | [], xs, ids, h => by simp [viewL] at h; obtain ⟨rfl, rfl⟩ := h; simp
  | v :: vs, xs, ids, h => by
    simp only [viewL] at h
    split at h <;> try (simp at h; done)
    rename_i y is ys js h1 h2
    simp at h
    obtain ⟨rfl, rfl⟩ := h
    intro id hid
    rcases List.mem_append.1 hid with h | h
    · exact hf _ _ _ h1 id h
    · exact viewL_ids hf vs ys js h2 id h

/-- The blocks that a view met are live. -/
theorem view_ids : ∀ (n : Nat) (v v' : AV) (ids : List Nat), view H n v = some (v', ids) → ∀ id ∈ ids, ∃ cs, H[id]? = some (.cells cs)
  | 0, _, _, _, h => by simp [view] at h
  | n + 1, v, v', ids, h => by
    have ih := viewL_ids (f := view H n) (Q := fun id => ∃ cs, H[id]? = some (.cells cs)) (fun v v' ids h => view_ids n v v' ids h)
    simp only [view] at h
    split at h
    all_goals first
      | (simp at h; obtain ⟨rfl, rfl⟩ := h; simp; done)
      | skip
    · split at h <;> try (simp at h; done)
      rename_i xs is hv
      simp at h; obtain ⟨rfl, rfl⟩ := h
      exact ih _ _ _ hv
    · split at h <;> try (simp at h; done)
      rename_i xs is hv
      simp at h; obtain ⟨rfl, rfl⟩ := h
      exact ih _ _ _ hv
    · split at h <;> try (simp at h; done)
      rename_i y is hv
      simp at h; obtain ⟨rfl, rfl⟩ := h
      exact view_ids n _ _ _ hv
    · split at h <;> try (simp at h; done)
      rename_i cs hcs
      split at h <;> try (simp at h; done)
      split at h <;> try (simp at h; done)
      rename_i xs is hv
      simp at h; obtain ⟨rfl, rfl⟩ := h
      intro id' hid
      rcases List.mem_cons.1 hid with rfl | hid
      · exact ⟨cs, hcs⟩
      · exact ih _ _ _ hv id' hid
    · split at h <;> try (simp at h; done)
      rename_i xs is ys js h1 h2
      simp at h; obtain ⟨rfl, rfl⟩ := h
      intro id hid
      rcases List.mem_append.1 hid with h | h
      · exact ih _ _ _ h1 id h
      · exact ih _ _ _ h2 id h
    · simp at h

/-- The places that are never written from now on. -/
def zcall (Z : Nat → Prop) (ρ : Rho) (ids : List Nat) : Nat → Prop := fun b => Z b ∨ ∃ id ∈ ids, ∃ base, ρ id = some (b, base)

theorem kill_get (ids : List Nat) : ∀ (H : Heap) (j : Nat) (k : Blk), (AX.kill H ids)[j]? = some k → k.live → H[j]? = some k ∧ j ∉ ids := by
  induction ids with
  | nil => intro H j k h _; exact ⟨h, by simp⟩
  | cons i is ih =>
    intro H j k h hl
    obtain ⟨h1, h2⟩ := ih (H.set i .dead) j k h hl
    by_cases hj : i = j
    · subst hj
      by_cases hlt : i < H.length
      · rw [List.getElem?_set_self hlt] at h1
        simp at h1
        subst h1
        exact hl.elim
      · rw [List.getElem?_eq_none (by simp; omega)] at h1; simp at h1
    · rw [List.getElem?_set_ne hj] at h1
      exact ⟨h1, by simp [h2, Ne.symm hj]⟩

theorem HRel.freeze (hH : HRel B Z w ρ H) {ids : List Nat} (hids : ∀ id ∈ ids, ∃ cs, H[id]? = some (.cells cs)) :
    Ext B Z w ρ H.length (zcall Z ρ ids) w ρ ∧ HRel B (zcall Z ρ ids) w ρ (AX.kill H ids) := by
  have e : Ext B Z w ρ H.length (zcall Z ρ ids) w ρ := by
    refine ⟨fun b h => .inl h, fun b h => ?_, fun _ _ => rfl, fun _ _ => rfl, fun _ _ h => h, fun _ _ h => h, Below.refl _ _, fun _ r h => ⟨r, h⟩⟩
    rcases h with h | ⟨id, _, base, hr⟩
    · exact .inl h
    · exact .inr (hH.low _ _ _ hr).1
  have hK := hH.kill ids
  have nz : ∀ (j : Nat) (k : Blk) b base, (AX.kill H ids)[j]? = some k → k.live → ρ j = some (b, base) → ¬ Z b → ¬ zcall Z ρ ids b := by
    intro j k b base h1 hl h2 nz h
    rcases h with h | ⟨id, hid, base', hr⟩
    · exact nz h
    · obtain ⟨g1, g2⟩ := kill_get ids H j k h1 hl
      obtain ⟨cs, hcs⟩ := hids id hid
      have := hH.inj j id b base base' k _ g1 hl hcs trivial h2 hr
      exact g2 (this ▸ hid)
  have hdom := hH.dom
  refine ⟨e, ?_⟩
  constructor
  · exact hK.dom
  · intro id cs b base h1 h2
    obtain ⟨g1, c, t, g2, g3, g4⟩ := hK.cells id cs b base h1 h2
    exact ⟨nz id _ b base h1 trivial h2 g1, c, t, g2, g3, fun i hi => by obtain ⟨v, k1, k2, k3⟩ := g4 i hi; exact ⟨v, k1, k2.mono e hdom, k3⟩⟩
  · intro id tm ps as bo st pd b base h1 h2
    obtain ⟨g1, g2, fn, tmv, dfr, g3, g4⟩ := hK.loop id tm ps as bo st pd b base h1 h2
    exact ⟨nz id _ b base h1 trivial h2 g1, g2, fn, tmv, dfr, g3, g4.mono e hdom⟩
  · exact hK.inj
  · exact hK.low
  · intro b hb
    rcases hb with h | ⟨id, _, base, hr⟩
    · exact hH.zlt b h
    · exact (hH.low _ _ _ hr).2
  · exact hH.big
  · intro b hb
    rcases hb with h | ⟨id, hid, base, hr⟩
    · exact hH.zc b h
    · obtain ⟨cs, hcs⟩ := hids id hid
      obtain ⟨_, c, t, g2, _⟩ := hH.cells id cs b base hcs hr
      exact ⟨c, t, _, g2⟩

/-- The contract of a function that only computes: on plain data it returns plain data, and old memory is as it was. -/
def PureOK (P : Program) (f : FuncId) (args : List AV) (r : AV) : Prop :=
  ∀ (w : World) (Z : Nat → Prop) (vs : Array Value), (∀ b, Z b → ∃ c t fr, w.heap[b]? = some (.cells c t fr)) → RelA Z w noRho args vs →
    Calls P f vs w fun e w' => ∃ v Z', e = .returned v ∧ Below w.heap.size w w' ∧ (∀ b, Z b → Z' b) ∧ (∀ b, Z' b → Z b ∨ w.heap.size ≤ b) ∧ (∀ b, Z' b → ∃ c t fr, w'.heap[b]? = some (.cells c t fr)) ∧ Rel Z' w' noRho r v

end
end Go.AX

/- AX, part 12: loops over functions, calls, results: the ground for the code. -/
set_option linter.unusedVariables false
set_option linter.unusedSimpArgs false
namespace Go.AX
open Go Go.RowKit

section
variable {P : Program} {Z : Nat → Prop} {w : World} {ρ : Rho} {B : Nat} {H : Heap}

/-- A world in which all that is named is as it was. -/
theorem HRel.kept0 (hH : HRel B Z w ρ H) {Z' : Nat → Prop} {w' : World} (e1 : ∀ b, Z b → Z' b) (e2 : ∀ b, Z b → w'.heap[b]? = w.heap[b]?) (e3 : ∀ b s, w.shape? b = some s → w'.shape? b = some s) (e4 : w.heap.size ≤ w'.heap.size)
    (hz : ∀ b, Z' b → Z b ∨ w.heap.size ≤ b) (zc : ∀ b, Z' b → ∃ c t fr, w'.heap[b]? = some (.cells c t fr))
    (hk : ∀ id k b base, H[id]? = some k → k.live → ρ id = some (b, base) → w'.heap[b]? = w.heap[b]?) : HRel B Z' w' ρ H := by
  have mono : ∀ {v : AV} {x : Value}, Rel Z w ρ v x → Rel Z' w' ρ v x := fun h => h.mono' e1 e2 e3 ρ (fun _ _ h => h)
  have nz : ∀ id b base, ρ id = some (b, base) → ¬ Z b → ¬ Z' b := by
    intro id b base h1 h2 h3
    rcases hz b h3 with h | h
    · exact h2 h
    · have := (hH.low _ _ _ h1).2; omega
  constructor
  · exact hH.dom
  · intro id cs b base h1 h2
    obtain ⟨g1, c, t, g2, g3, g4⟩ := hH.cells id cs b base h1 h2
    exact ⟨nz _ _ _ h2 g1, c, t, by rw [hk id _ b base h1 trivial h2]; exact g2, g3, fun i hi => by obtain ⟨v, k1, k2, k3⟩ := g4 i hi; exact ⟨v, k1, mono k2, k3⟩⟩
  · intro id tm ps as bo st pd b base h1 h2
    obtain ⟨g1, g2, fn, tmv, dfr, g3, g4⟩ := hH.loop id tm ps as bo st pd b base h1 h2
    exact ⟨nz _ _ _ h2 g1, g2, fn, tmv, dfr, by rw [hk id _ b base h1 trivial h2]; exact g3, g4.1, fun i hi hi' => mono (g4.2 i hi hi')⟩
  · exact hH.inj
  · intro id b base h1
    have := hH.low _ _ _ h1
    exact ⟨by omega, by omega⟩
  · intro b hb
    obtain ⟨c, t, fr, h⟩ := zc b hb
    exact lt_of_some h
  · have := hH.big
    omega
  · exact zc

theorem HRel.kept (hH : HRel B Z w ρ H) {Z' : Nat → Prop} {w' : World} (e : Ext B Z w ρ H.length Z' w' ρ) (hz : ∀ b, Z' b → Z b ∨ w.heap.size ≤ b)
    (zc : ∀ b, Z' b → ∃ c t fr, w'.heap[b]? = some (.cells c t fr))
    (hk : ∀ id k b base, H[id]? = some k → k.live → ρ id = some (b, base) → w'.heap[b]? = w.heap[b]?) : HRel B Z' w' ρ H :=
  hH.kept0 e.z e.same e.shape e.below.size hz zc hk

/-- A new block that has no name. -/
theorem HRel.other (hH : HRel B Z w ρ H) (o : Obj) : Ext B Z w ρ H.length Z (w.alloc o) ρ ∧ HRel B Z (w.alloc o) ρ H := by
  have e : Ext B Z w ρ H.length Z (w.alloc o) ρ := Ext.alloc hH o (fun _ _ => rfl)
  refine ⟨e, hH.kept e (fun b h => .inl h) (fun b hb => ?_) (fun id k b base _ _ h => alloc_old (hH.low _ _ _ h).2)⟩
  obtain ⟨c, t, fr, h⟩ := hH.zc b hb
  exact ⟨c, t, fr, by rw [alloc_old (lt_of_some h)]; exact h⟩

/-- The record of a loop. -/
def loopObj (fn : FuncId) (tmv : Array Value) (ps : List Tmp) (as bo : Code) (st : LoopState) (pd : Option Code) (dfr : Nat) : Obj :=
  .loop { state := st, pending := pd, fn, tmps := tmv, params := ps.toArray, assign := as, body := bo, defers := dfr }

theorem HRel.allocLoop (hH : HRel B Z w ρ H) {tm : List AV} {tmv : Array Value} (hr : RelA Z w ρ tm tmv) (fn : FuncId) (ps : List Tmp) (as bo : Code) (st : LoopState) (pd : Option Code) (dfr : Nat) :
    Ext B Z w ρ H.length Z (w.alloc (loopObj fn tmv ps as bo st pd dfr)) (upd ρ H.length (w.heap.size, 0)) ∧ HRel B Z (w.alloc (loopObj fn tmv ps as bo st pd dfr)) (upd ρ H.length (w.heap.size, 0)) (H ++ [.loop tm ps as bo st pd]) := by
  have e : Ext B Z w ρ H.length Z (w.alloc (loopObj fn tmv ps as bo st pd dfr)) (upd ρ H.length (w.heap.size, 0)) := Ext.alloc hH _ (fun id h => upd_lt h)
  have hdom := hH.dom
  refine ⟨e, ?_⟩
  constructor
  · intro id x hx
    rcases upd_inv hx with ⟨rfl, _⟩ | ⟨_, h⟩
    · simp
    · have := hH.dom id x h; simp; omega
  · intro id cs' b base h1 h2
    rcases upd_inv h2 with ⟨rfl, h3⟩ | ⟨hne, h3⟩
    · simp at h1
    · have hlt := hH.dom id _ h3
      rw [List.getElem?_append_left hlt] at h1
      obtain ⟨g1, c', t', g2, g3, g4⟩ := hH.cells id cs' b base h1 h3
      refine ⟨g1, c', t', by rw [alloc_old (lt_of_some g2)]; exact g2, g3, fun i hi => ?_⟩
      obtain ⟨v, k1, k2, k3⟩ := g4 i hi
      exact ⟨v, k1, k2.mono e hdom, k3⟩
  · intro id tm' ps' as' bo' st' pd' b base h1 h2
    rcases upd_inv h2 with ⟨rfl, h3⟩ | ⟨hne, h3⟩
    · simp at h3 h1
      obtain ⟨rfl, rfl⟩ := h3
      obtain ⟨rfl, rfl, rfl, rfl, rfl, rfl⟩ := h1
      exact ⟨fun hz => by have := hH.zlt _ hz; omega, rfl, fn, tmv, dfr, alloc_new, hr.mono e hdom⟩
    · have hlt := hH.dom id _ h3
      rw [List.getElem?_append_left hlt] at h1
      obtain ⟨g1, g2, fn, tmv, dfr, g3, g4⟩ := hH.loop id tm' ps' as' bo' st' pd' b base h1 h3
      exact ⟨g1, g2, fn, tmv, dfr, by rw [alloc_old (lt_of_some g3)]; exact g3, g4.mono e hdom⟩
  · intro id id' b base base' k k' h1 l1 h2 l2 r1 r2
    rcases upd_inv r1 with ⟨rfl, e1⟩ | ⟨n1, e1⟩ <;> rcases upd_inv r2 with ⟨rfl, e2⟩ | ⟨n2, e2⟩
    · rfl
    · simp at e1
      have := (hH.low _ _ _ e2).2
      omega
    · simp at e2
      have := (hH.low _ _ _ e1).2
      omega
    · rw [List.getElem?_append_left (hH.dom _ _ e1)] at h1
      rw [List.getElem?_append_left (hH.dom _ _ e2)] at h2
      exact hH.inj id id' b base base' k k' h1 l1 h2 l2 e1 e2
  · intro id b base r1
    rcases upd_inv r1 with ⟨rfl, e1⟩ | ⟨n1, e1⟩
    · simp at e1
      obtain ⟨rfl, rfl⟩ := e1
      exact ⟨hH.big, by simp⟩
    · have := hH.low _ _ _ e1
      exact ⟨this.1, by simp; omega⟩
  · intro b hb
    have := hH.zlt b hb
    simp; omega
  · have := hH.big
    simp; omega
  · intro b hb
    obtain ⟨c', t', fr, h⟩ := hH.zc b hb
    exact ⟨c', t', fr, by rw [alloc_old (lt_of_some h)]; exact h⟩

theorem shape_loop {b : Nat} {r : Loop} {o : Obj} (h : w.heap[b]? = some (.loop r)) {b' : Nat} {s : TypeId × Nat} (hs : w.shape? b' = some s) : (w.putObj b o).shape? b' = some s := by
  have hne : b' ≠ b := by
    intro e
    subst e
    unfold World.shape? at hs
    rw [h] at hs
    simp at hs
  unfold World.shape? at hs ⊢
  rw [World.putObj_heap_other hne]; exact hs

/-- A record that turns. -/
theorem HRel.setLoop (hH : HRel B Z w ρ H) {id b base : Nat} {tm : List AV} {ps : List Tmp} {as bo : Code} {st : LoopState} {pd : Option Code} (h1 : H[id]? = some (.loop tm ps as bo st pd)) (h2 : ρ id = some (b, base))
    {fn : FuncId} {tmv : Array Value} {dfr : Nat} (hw : w.heap[b]? = some (loopObj fn tmv ps as bo st pd dfr)) (hr : RelA Z w ρ tm tmv) (st' : LoopState) (pd' : Option Code) :
    Ext B Z w ρ H.length Z (w.putObj b (loopObj fn tmv ps as bo st' pd' dfr)) ρ ∧ HRel B Z (w.putObj b (loopObj fn tmv ps as bo st' pd' dfr)) ρ (H.set id (.loop tm ps as bo st' pd')) := by
  obtain ⟨nz, hb0, _⟩ := hH.loop id _ _ _ _ _ _ b base h1 h2
  have hlow := hH.low _ _ _ h2
  have hb := lt_of_some hw
  have e : Ext B Z w ρ H.length Z (w.putObj b (loopObj fn tmv ps as bo st' pd' dfr)) ρ := by
    refine ⟨fun _ h => h, fun _ h => .inl h, fun b' hb' => World.putObj_heap_other (fun e => nz (e ▸ hb')), fun _ _ => rfl, fun b' s hs' => shape_loop hw hs', fun r ds hr' => ?_, ?_, ?_⟩
    · rw [World.putObj_heap_other (fun e => by subst e; rw [hw] at hr'; simp [loopObj] at hr')]; exact hr'
    · exact ⟨rfl, rfl, rfl, by simp, fun k hk => World.putObj_heap_other (by omega)⟩
    · intro b' r' hb'
      by_cases he : b' = b
      · subst he; exact ⟨_, World.putObj_heap_same hb⟩
      · exact ⟨r', by rw [World.putObj_heap_other he]; exact hb'⟩
  have hdom := hH.dom
  have hidlt : id < H.length := hH.dom _ _ h2
  refine ⟨e, ?_⟩
  constructor
  · intro j x hx; have := hH.dom j x hx; simpa using this
  · intro j cs2 b' base' g1 g2
    by_cases hj : id = j
    · subst hj
      rw [List.getElem?_set_self hidlt] at g1
      simp at g1
    · rw [List.getElem?_set_ne hj] at g1
      obtain ⟨q1, c', t', q2, q3, q4⟩ := hH.cells j cs2 b' base' g1 g2
      have hbb : b' ≠ b := fun eb => hj (hH.inj id j b base base' _ _ h1 trivial g1 trivial h2 (eb ▸ g2))
      refine ⟨q1, c', t', by rw [World.putObj_heap_other hbb]; exact q2, q3, fun i hi => ?_⟩
      obtain ⟨v, k1, k2, k3⟩ := q4 i hi
      exact ⟨v, k1, k2.mono e hdom, k3⟩
  · intro j tm' ps' as' bo' st'' pd'' b' base' g1 g2
    by_cases hj : id = j
    · subst hj
      rw [List.getElem?_set_self hidlt] at g1
      simp at g1
      obtain ⟨rfl, rfl, rfl, rfl, rfl, rfl⟩ := g1
      rw [h2] at g2
      simp at g2
      obtain ⟨rfl, rfl⟩ := g2
      exact ⟨nz, hb0, fn, tmv, dfr, World.putObj_heap_same hb, hr.mono e hdom⟩
    · rw [List.getElem?_set_ne hj] at g1
      obtain ⟨q1, q2, fn', tmv', dfr', q3, q4⟩ := hH.loop j tm' ps' as' bo' st'' pd'' b' base' g1 g2
      have hbb : b' ≠ b := fun eb => hj (hH.inj id j b base base' _ _ h1 trivial g1 trivial h2 (eb ▸ g2))
      exact ⟨q1, q2, fn', tmv', dfr', by rw [World.putObj_heap_other hbb]; exact q3, q4.mono e hdom⟩
  · intro j j' b' base1 base2 k k' g1 l1 g2 l2 r1 r2
    have key : ∀ (j : Nat) (k : Blk), (H.set id (.loop tm ps as bo st' pd'))[j]? = some k → k.live → ∃ k0, H[j]? = some k0 ∧ k0.live := by
      intro j k hk hl
      by_cases hj : id = j
      · subst hj; exact ⟨_, h1, trivial⟩
      · rw [List.getElem?_set_ne hj] at hk; exact ⟨_, hk, hl⟩
    obtain ⟨k1, a1, b1⟩ := key j k g1 l1
    obtain ⟨k2, a2, b2⟩ := key j' k' g2 l2
    exact hH.inj j j' b' base1 base2 k1 k2 a1 b1 a2 b2 r1 r2
  · intro j b' base' r1
    have := hH.low _ _ _ r1
    exact ⟨this.1, by simp; omega⟩
  · intro b' hb'; have := hH.zlt b' hb'; simp; omega
  · have := hH.big; simp; omega
  · intro b' hb'
    obtain ⟨c', t', fr, h⟩ := hH.zc b' hb'
    have hbb : b' ≠ b := fun e => nz (e ▸ hb')
    exact ⟨c', t', fr, by rw [World.putObj_heap_other hbb]; exact h⟩

/-! ### Guards, results -/

theorem wantedA_eq {ops : Array Oper} {T : List AV} {tmps : Array Value} (hT : RelA Z w ρ T tmps) (o : Oper) : wantedA ops.toList T o = Region.wanted o (yielded ops tmps) := by
  unfold wantedA Region.wanted yielded
  obtain ⟨dst, op, type, pos, after, guard⟩ := o
  cases guard with
  | none => rfl
  | some g =>
    obtain ⟨j, want⟩ := g
    simp only [Array.getElem?_toList]
    cases hd : (ops[j]?).bind (·.dst) with
    | none => simp
    | some d =>
      simp only [Option.bind_some]
      by_cases hl : d < T.length
      · have hl' : d < tmps.size := hT.1 ▸ hl
        have hr := hT.2 d hl hl'
        rw [List.getElem?_eq_getElem hl, Array.getElem?_eq_getElem hl']
        generalize T[d] = x at hr
        generalize tmps[d] = y at hr
        cases hr <;> simp
      · have hl' : ¬ d < tmps.size := hT.1 ▸ hl
        rw [List.getElem?_eq_none (Nat.le_of_not_lt hl), Array.getElem?_eq_none (Nat.le_of_not_lt hl')]
        simp

def resOne (tmps : Array Value) : ResultVar → Sem Value
  | .tmp t => pure (tmps.getD t undef)
  | .cell a t => do loadVar t (← asAddr (tmps.getD a undef))

theorem run_resultsL (hH : HRel B Z w ρ H) {T : List AV} {tmps : Array Value} (hT : RelA Z w ρ T tmps) : ∀ (rs : List ResultVar) (vs : List AV), resultsL P ⟨T, H⟩ rs = some vs →
    ∃ xs : List Value, (rs.mapM (resOne tmps)).run P w = .ok xs w ∧ xs.length = vs.length ∧ ∀ i (h : i < vs.length) (h' : i < xs.length), Rel Z w ρ vs[i] xs[i]
  | [], vs, h => by
    simp [resultsL] at h
    subst h
    exact ⟨[], by simp [Sem.run_pure], rfl, fun i hi => by simp at hi⟩
  | .tmp t :: rs, vs, h => by
    simp only [resultsL] at h
    split at h <;> try (simp at h; done)
    rename_i us hus
    simp only [Option.some.injEq] at h
    subst h
    obtain ⟨xs, h1, h2, h3⟩ := run_resultsL hH hT rs us hus
    have hx' : (resOne tmps (.tmp t)).run P w = .ok (tmps.getD t undef) w := by simp only [resOne, Sem.run_pure]
    refine ⟨tmps.getD t undef :: xs, by rw [List.mapM_cons]; simp only [Sem.run_bind, hx', h1, Result.andThen_ok, Sem.run_pure], by simp [h2], fun i hi hi' => ?_⟩
    cases i with
    | zero => exact hT.getD t
    | succ i => exact h3 i (by simpa using hi) (by simpa using hi')
  | .cell a t :: rs, vs, h => by
    simp only [resultsL] at h
    split at h <;> try (simp at h; done)
    rename_i v us hv hus
    simp only [Option.some.injEq] at h
    subst h
    obtain ⟨xs, h1, h2, h3⟩ := run_resultsL hH hT rs us hus
    obtain ⟨ad, x, hx, hl, hrx⟩ := loadA_rel (P := P) hH (hT.getD a) hv
    have hx' : (resOne tmps (.cell a t)).run P w = .ok x w := by
      simp only [resOne, hx, Sem.run_bind, asAddr, Sem.run_pure, Result.andThen_ok, hl]
    refine ⟨x :: xs, by rw [List.mapM_cons]; simp only [Sem.run_bind, hx', h1, Result.andThen_ok, Sem.run_pure], by simp [h2], fun i hi hi' => ?_⟩
    cases i with
    | zero => exact hrx
    | succ i => exact h3 i (by simpa using hi) (by simpa using hi')

theorem run_results (hH : HRel B Z w ρ H) {T : List AV} {tmps : Array Value} (hT : RelA Z w ρ T tmps) {fn : Func} {r : AV} (h : resultsA P fn ⟨T, H⟩ = some r) :
    ∃ v, (results fn tmps).run P w = .ok v w ∧ Rel Z w ρ r v := by
  unfold resultsA at h
  have hfn : results fn tmps = (do let vs ← fn.results.mapM (resOne tmps); pure (if h : vs.size = 1 then vs[0] else .tuple vs)) := by
    unfold results
    congr 1
  rw [hfn]
  have hm : fn.results.mapM (resOne tmps) = (do let l ← fn.results.toList.mapM (resOne tmps); pure l.toArray) := by
    rw [Array.mapM_eq_mapM_toList]
    rfl
  split at h
  · rename_i v hv
    simp at h
    subst h
    obtain ⟨xs, h1, h2, h3⟩ := run_resultsL hH hT _ _ hv
    match xs, h2 with
    | [x], _ =>
      refine ⟨x, ?_, h3 0 (by simp) (by simp)⟩
      rw [hm]
      simp only [Sem.run_bind, h1, Result.andThen_ok, Sem.run_pure]
      rfl
  · rename_i vs hne hvs
    simp at h
    subst h
    obtain ⟨xs, h1, h2, h3⟩ := run_resultsL hH hT _ _ hvs
    have hsz : ¬ xs.length = 1 := by
      intro he
      match vs, hne, (h2 ▸ he : vs.length = 1) with
      | [v], hne, _ => exact hne v rfl
    refine ⟨.tuple xs.toArray, ?_, .tup (by simp [h2]) (fun i hi hi' => by simpa using h3 i hi (by simpa using hi'))⟩
    rw [hm]
    simp only [Sem.run_bind, h1, Result.andThen_ok, Sem.run_pure]
    simp [hsz]
  · simp at h

/-! ### The fence, scopes, loops -/

/-- The wide fence, in a round or not. -/
def FW (ro : Option Nat) : Fence := { fn := fun _ => True, depth := none, alive := false, round := ro }

theorem room_FW (ro : Option Nat) (n : Nat) : (FW ro).room n := fun _ h => by simp [FW] at h

theorem callsIn_FW {ro : Option Nat} {n : Nat} {f : FuncId} {args : Array Value} {R : Ending → World → Prop} : CallsIn (FW ro) n P f args w R ↔ Calls P f args w R :=
  ⟨fun h => callsIn_wide (n := n).1 h, fun h => (callsIn_wide (n := n)).2 h⟩

section
variable {b : Frame} {a : Act} {k : List Item} {cs : List Frame} {w : World}

theorem stepR_scope' {c : Code} : step P (lone (b.atR a (.code (.scope c) :: k)) cs w) = .next (lone (b.atR a (.code c :: .inScope c :: k)) cs w) :=
  step_lone_go (by simp [stepG, stepG.exec, Frame.atR])
theorem stepR_inScope' {c : Code} : step P (lone (b.atR a (.inScope c :: k)) cs w) = .next (lone (b.atR a k) cs w) :=
  step_lone_go (by simp [stepG, stepG.exec, Frame.atR])

theorem wpIn_scope' {F : Fence} {n : Nat} {Q : Exit → Act → World → Prop} {c : Code} (h : c.wpIn F n P (Exit.noGoto Q) a w) : (Code.scope c).wpIn F n P Q a w := by
  intro b k cs hro hb hr
  have h0 : (lone (b.atR a (.code (.scope c) :: k)) cs w).fenced P F := fenced_calm hb hr rfl
  obtain ⟨e, a₁, w₁, hq, harr⟩ := h b (.inScope c :: k) cs hro hb hr
  cases e with
  | goto l => exact hq.elim
  | normal => exact ⟨.normal, a₁, w₁, hq, .head h0 stepR_scope' (StepsIn.trans harr (.one (fenced_calm hb hr rfl) stepR_inScope'))⟩
  | exit id =>
    have hx : exitTo id (.inScope c :: k) = exitTo id k := by simp [exitTo]
    exact ⟨.exit id, a₁, w₁, hq, fun k' hk => .head h0 stepR_scope' (harr.1 k' (by rw [hx]; exact hk)),
      fun hr' hk => let ⟨k₁, h1, h2⟩ := harr.2 hr' (by rw [hx]; exact hk); ⟨k₁, h1, .head h0 stepR_scope' h2⟩⟩
  | ret => exact ⟨_, a₁, w₁, hq, .of_steps (.one h0 stepR_scope') harr⟩
  | panic ch => exact ⟨_, a₁, w₁, hq, .of_steps (.one h0 stepR_scope') harr⟩
  | outgrown => exact ⟨_, a₁, w₁, hq, .of_steps (.one h0 stepR_scope') harr⟩
end

theorem least (p : Nat → Prop) : ∀ n, p n → ∃ m, p m ∧ ∀ k, p k → m ≤ k := by
  intro n
  induction n using Nat.strongRecOn with
  | _ n ih =>
    intro h
    by_cases hk : ∃ k, k < n ∧ p k
    · obtain ⟨k, h1, h2⟩ := hk; exact ih k h1 h2
    · exact ⟨n, h, fun k hp => Nat.le_of_not_lt fun hl => hk ⟨k, hl, hp⟩⟩

open Classical in
noncomputable def leastOf (p : Nat → Prop) : Nat := if h : ∃ m, p m ∧ ∀ k, p k → m ≤ k then h.choose else 0

theorem leastOf_le {p : Nat → Prop} {n : Nat} (h : p n) : leastOf p ≤ n := by
  have hm := least p n h
  unfold leastOf
  rw [dif_pos hm]
  exact hm.choose_spec.2 n h

theorem leastOf_spec {p : Nat → Prop} {n : Nat} (h : p n) : p (leastOf p) := by
  have hm := least p n h
  unfold leastOf
  rw [dif_pos hm]
  exact hm.choose_spec.1

/-- A loop that a fuel runs down. -/
theorem wpIn_loop' {F : Fence} {n : Nat} {Q : Exit → Act → World → Prop} {a : Act} {w : World} {c : Code} (I : Nat → Act → World → Prop) {j : Nat} (h₀ : I j a w)
    (round : ∀ j a w, I j a w → c.wpIn F n P (Exit.then (fun a' w' => ∃ i, i < j ∧ I i a' w') Q) a w) : (Code.loop c).wpIn F n P Q a w := by
  refine wpIn_loop (fun a w => ∃ j, I j a w) (fun a w => leastOf fun j => I j a w) ⟨j, h₀⟩ fun a w ⟨j, hj⟩ => ?_
  refine wpIn_mono (round _ a w (leastOf_spec (p := fun j => I j a w) hj)) fun e a' w' he => ?_
  cases e <;> try exact he
  obtain ⟨i, hi, hI⟩ := he
  exact ⟨⟨i, hI⟩, Nat.lt_of_le_of_lt (leastOf_le (p := fun j => I j a' w') hI) hi⟩

end
end Go.AX

/- AX, part 13: one operation, calls and all; regions in the written order. -/
set_option linter.unusedVariables false
set_option linter.unusedSimpArgs false
namespace Go.AX
open Go Go.RowKit

/-- What is asked of a program. -/
structure ProgOK (P : Program) : Prop where
  mixed : P.follows .mixedOrders = true
  names : ∀ (f : Nat) (fn : Func), P.funcs[f]? = some fn → (fn.name == "runtime.NumGoroutine") = false

def RPost (B : Nat) (Z : Nat → Prop) (w : World) (ρ : Rho) (n : Nat) (r : AV) (H' : Heap) : Ending → World → Prop := fun e w' =>
  ∃ v Z' ρ', e = .returned v ∧ Ext B Z w ρ n Z' w' ρ' ∧ HRel B Z' w' ρ' H' ∧ Rel Z' w' ρ' r v ∧ n ≤ H'.length

def CallOK (P : Program) (call : FuncId → List AV → Heap → Option (AV × Heap)) : Prop :=
  ∀ f args H r H', call f args H = some (r, H') → ∀ B Z w ρ vs, RelA Z w ρ args vs → HRel B Z w ρ H →
    (∃ fn c, P.funcs[f]? = some fn ∧ fn.body = some c) ∧ Calls P f vs w (RPost B Z w ρ H.length r H')

def RoundOK (P : Program) (round : Nat → List AV → Heap → Option (AV × Heap)) : Prop :=
  ∀ id args H r H', round id args H = some (r, H') → ∀ B Z w ρ vs b, ρ id = some (b, 0) → RelA Z w ρ args vs → HRel B Z w ρ H →
    ∃ fn tmps as bo, (Instr.yield b vs).run P w = .ok (.round b fn tmps as bo) w ∧ ∀ ro m, RoundIn (FW ro) m P b fn tmps as bo w (RPost B Z w ρ H.length r H')

section
variable {P : Program} {Z : Nat → Prop} {w : World} {ρ : Rho} {B : Nat} {H : Heap}

theorem run_callFunc (hP : ProgOK P) {f : FuncId} {fn : Func} {c : Code} (h1 : P.funcs[f]? = some fn) (h2 : fn.body = some c) (vs : Array Value) (w : World) : (callFunc f vs).run P w = .ok (.enter f vs) w := by
  have h3 := hP.names f fn h1
  unfold callFunc
  simp only [Sem.run_bind, program, Sem.run, Result.andThen_ok, h1, h2]
  rw [h3]
  simp [Sem.run_pure, Sem.run]

theorem relA_append {l l' : List AV} {a a' : Array Value} (h : RelA Z w ρ l a) (h' : RelA Z w ρ l' a') : RelA Z w ρ (l ++ l') (a ++ a') := by
  refine ⟨by simp [h.1, h'.1], fun i hi hi' => ?_⟩
  by_cases hl : i < l.length
  · have hl' : i < a.size := h.1 ▸ hl
    rw [List.getElem_append_left hl, Array.getElem_append_left hl']
    exact h.2 i hl hl'
  · have hl' : a.size ≤ i := h.1 ▸ Nat.le_of_not_lt hl
    rw [List.getElem_append_right (Nat.le_of_not_lt hl), Array.getElem_append_right hl']
    have : i - l.length = i - a.size := by rw [h.1]
    simp only [this]
    refine h'.2 _ ?_ ?_

theorem relA_of {l : List AV} {a : Array Value} (h1 : l.length = a.size) (h2 : ∀ i (h : i < l.length) (h' : i < a.size), Rel Z w ρ l[i] a[i]) : RelA Z w ρ l a := ⟨h1, h2⟩

/-- One operation that is wanted. -/
theorem oper_ok {E : Env} {R : Rec} (hP : ProgOK E.P) (hC : CallOK E.P R.call) (hR : RoundOK E.P R.round) {T : List AV} {H' : Heap} {o : Oper} {a : Act} {r : AV} (hT : RelA Z w ρ T a.tmps) (hH : HRel B Z w ρ H)
    (h : axOp E R T H o = some (r, H')) {ro : Option Nat} {m : Nat} {K : Act → World → Prop} {Q : Exit → Act → World → Prop}
    (hK : ∀ v w' Z' ρ', Ext B Z w ρ H.length Z' w' ρ' → HRel B Z' w' ρ' H' → Rel Z' w' ρ' r v → H.length ≤ H'.length → K (a.put o.dst v) w') :
    o.wpIn (FW ro) m E.P a w K Q := by
  have hnd : ∀ c, o.op ≠ .defer c := by
    intro c hc
    unfold axOp at h
    rw [hc] at h
    simp at h
  refine ⟨fun _ _ => trivial, ?_⟩
  rw [Oper.semAt_eq _ _ _ hnd]
  by_cases hv : ∃ c f, o.op = .call c ∧ c.callee = .value f
  · obtain ⟨c, f, hop, hce⟩ := hv
    have hex : execOp a.eval o = (do let d ← Deferred.ofValue (a.eval f) (c.args.map a.eval); invoke d.target d.args) := by
      unfold execOp
      rw [hop]
      simp only
      unfold resolve
      rw [hce]
    rw [hex]
    unfold axOp at h
    rw [hop] at h
    simp only [hce] at h
    split at h <;> try (simp at h; done)
    rename_i args hargs
    split at h <;> try (simp at h; done)
    rename_i fv hfv
    have ha := evs_relA hT hargs
    have hf := ev_rel hT hfv
    unfold callV at h
    split at h <;> try (simp at h; done)
    · rename_i g first captured
      generalize a.eval f = xf at hf
      cases hf with
      | func hfn g1 g2 g3 g4 =>
        rename_i fn' fa ga
        cases hfn
        have hall := relA_append (relA_append (relA_of g1 g2) ha) (relA_of g3 g4)
        obtain ⟨⟨fn, cd, k1, k2⟩, hcall⟩ := hC _ _ _ _ _ h B Z w ρ _ hall hH
        have hrun := run_callFunc hP k1 k2 (fa ++ Array.map a.eval c.args ++ ga) w
        simp only [Deferred.ofValue, Sem.run_bind, Sem.run_pure, Result.andThen_ok, invoke, hrun]
        rw [Oper.uponIn_enter]
        refine ⟨fun hd => by simp [FW] at hd, callsIn_FW.2 ?_⟩
        intro cs
        obtain ⟨e, w', fr, hr, hs, hx⟩ := hcall cs
        refine ⟨e, w', fr, ?_, hs, hx⟩
        obtain ⟨v, Z', ρ', rfl, q1, q2, q3, q4⟩ := hr
        exact hK v w' Z' ρ' q1 q2 q3 q4
    · rename_i l first captured
      generalize a.eval f = xf at hf
      cases hf with
      | func hfn g1 g2 g3 g4 =>
        rename_i fn' fa ga
        cases hfn with
        | yield hl =>
          rename_i b
          have hall := relA_append (relA_of g1 g2) ha
          obtain ⟨fn, tmps, as, bo, hy, hround⟩ := hR _ _ _ _ _ h B Z w ρ _ b hl hall hH
          simp only [Deferred.ofValue, Sem.run_bind, Sem.run_pure, Result.andThen_ok, invoke, hy]
          rw [Oper.uponIn_round]
          refine ⟨fun hd => by simp [FW] at hd, (hround ro (m - 1)).mono ?_⟩
          intro e w' hr
          obtain ⟨v, Z', ρ', rfl, q1, q2, q3, q4⟩ := hr
          exact hK v w' Z' ρ' q1 q2 q3 q4
  · obtain ⟨x, v, w', Z', ρ', g1, g2, g3, g4, g5, g6⟩ := op_loud hT hH (fun c f hc hf => hv ⟨c, f, hc, hf⟩) h
    rw [g1]
    rcases g2 with rfl | ⟨rfl, rfl⟩
    · exact hK v w' Z' ρ' g3 g4 g5 g6
    · exact hK _ w' Z' ρ' g3 g4 g5 g6

theorem one_ok {E : Env} {R : Rec} (hP : ProgOK E.P) (hC : CallOK E.P R.call) (hR : RoundOK E.P R.round) {T : List AV} {H' : Heap} {ops : Array Oper} {i : Nat} {o : Oper} (hi : ops[i]? = some o) {a : Act} {r : AV} (hT : RelA Z w ρ T a.tmps) (hH : HRel B Z w ρ H)
    (h : axOne E R ops.toList o ⟨T, H⟩ = some (r, H')) {ro : Option Nat} {m : Nat} {K : Act → World → Prop} {Q : Exit → Act → World → Prop}
    (hK : ∀ v w' Z' ρ', Ext B Z w ρ H.length Z' w' ρ' → HRel B Z' w' ρ' H' → Rel Z' w' ρ' r v → H.length ≤ H'.length → K (a.put o.dst v) w') :
    wpOpIn (FW ro) m E.P ops Q i K a w := by
  unfold axOne at h
  unfold wpOpIn
  rw [hi]
  simp only
  rw [wantedA_eq hT o] at h
  split at h
  · rename_i hw
    rw [if_pos hw]
    exact oper_ok hP hC hR hT hH h hK
  · rename_i hw
    rw [if_neg hw]
    simp only [Option.some.injEq, Prod.mk.injEq] at h
    obtain ⟨rfl, rfl⟩ := h
    exact ⟨fun _ _ => trivial, hK _ w Z ρ (Ext.refl ..) hH rel_undef (Nat.le_refl _)⟩

/-- What holds after code. -/
def Post (B D : Nat) (Z : Nat → Prop) (w : World) (ρ : Rho) (n : Nat) (s' : St) (a' : Act) (w' : World) : Prop :=
  ∃ Z' ρ', Ext B Z w ρ n Z' w' ρ' ∧ RelA Z' w' ρ' s'.T a'.tmps ∧ HRel B Z' w' ρ' s'.H ∧ DefOK D w' a'.defers ∧ n ≤ s'.H.length

theorem Post.refl {D : Nat} {s : St} {a : Act} (hT : RelA Z w ρ s.T a.tmps) (hH : HRel B Z w ρ s.H) (hD : DefOK D w a.defers) : Post B D Z w ρ s.H.length s a w :=
  ⟨Z, ρ, Ext.refl .., hT, hH, hD, Nat.le_refl _⟩

theorem Post.trans {D : Nat} {n : Nat} {Z' : Nat → Prop} {w' : World} {ρ' : Rho} {s1 s2 : St} {a2 : Act} {w2 : World} (e : Ext B Z w ρ n Z' w' ρ') (hn : n ≤ s1.H.length) (h : Post B D Z' w' ρ' s1.H.length s2 a2 w2) : Post B D Z w ρ n s2 a2 w2 := by
  obtain ⟨Z2, ρ2, e2, q1, q2, q3, q4⟩ := h
  exact ⟨Z2, ρ2, e.trans e2 hn, q1, q2, q3, by omega⟩

theorem put_defers (a : Act) (d : Option Tmp) (v : Value) : (a.put d v).defers = a.defers := by cases d <;> rfl

theorem run_ok {E : Env} {R : Rec} (hP : ProgOK E.P) (hC : CallOK E.P R.call) (hR : RoundOK E.P R.round) {ops : Array Oper} {ro : Option Nat} {m D : Nat} {Q : Exit → Act → World → Prop} : ∀ (os : List Oper) (j : Nat) (s s' : St) (Z : Nat → Prop) (w : World) (ρ : Rho) (a : Act),
    ops.toList.drop j = os → axRun E R ops.toList os s = some s' → RelA Z w ρ s.T a.tmps → HRel B Z w ρ s.H → DefOK D w a.defers →
    (∀ a' w', Post B D Z w ρ s.H.length s' a' w' → Q .normal a' w') → wpOpsIn (FW ro) m E.P ops Q (List.range' j os.length) a w
  | [], j, s, s', Z, w, ρ, a, _, h, hT, hH, hD, hQ => by
    simp [axRun] at h
    subst h
    simp only [List.length_nil, List.range'_zero, wpOpsIn]
    exact hQ a w (Post.refl hT hH hD)
  | o :: os, j, s, s', Z, w, ρ, a, hd, h, hT, hH, hD, hQ => by
    simp only [axRun] at h
    split at h <;> try (simp at h; done)
    rename_i v H1 h1
    have hj : ops[j]? = some o := by
      have := congrArg (fun l => l[0]?) hd
      simpa using this
    have hd' : ops.toList.drop (j + 1) = os := by
      have := congrArg (List.drop 1) hd
      simpa [List.drop_drop, Nat.add_comm] using this
    rw [List.length_cons, List.range'_succ, wpOpsIn_cons]
    refine one_ok hP hC hR hj hT hH h1 fun x w1 Z1 ρ1 e1 hH1 hr1 hl => ?_
    refine run_ok (D := D) hP hC hR os (j + 1) ⟨put s.T o.dst v, H1⟩ s' Z1 w1 ρ1 _ hd' h ?_ hH1 ?_ ?_
    · exact put_relA (hT.mono e1 hH.dom) _ hr1
    · rw [put_defers]; exact hD.mono e1
    · intro a' w' hp
      exact hQ a' w' (hp.trans e1 (s1 := ⟨put s.T o.dst v, H1⟩) hl)

end
end Go.AX

/- AX, part 14: functions, rounds, code. -/
set_option linter.unusedVariables false
set_option linter.unusedSimpArgs false
namespace Go.AX
open Go Go.RowKit

def exOf : Ex → Exit
  | .normal => .normal
  | .exit id => .exit id
  | .goto l => .goto l
  | .ret => .ret

def InRound (ro : Option Nat) (w : World) : Prop := ∀ l, ro = some l → ∃ r, w.heap[l]? = some (.loop r)

theorem InRound.ext {ro : Option Nat} {B : Nat} {Z : Nat → Prop} {w : World} {ρ : Rho} {n : Nat} {Z' : Nat → Prop} {w' : World} {ρ' : Rho} (h : InRound ro w) (e : Ext B Z w ρ n Z' w' ρ') : InRound ro w' := fun l hl =>
  let ⟨r, hr⟩ := h l hl; e.isloop l r hr

/-- A way to run code that the model follows. -/
def RunOK (P : Program) (run : Run) : Prop := ∀ c s ex s', run c s = some (ex, s') → ∀ ro m B D Z w ρ a, RelA Z w ρ s.T a.tmps → HRel B Z w ρ s.H → DefOK D w a.defers → D ≤ w.heap.size → B ≤ D → InRound ro w →
  c.wpIn (FW ro) m P (fun e a' w' => e = exOf ex ∧ Post B D Z w ρ s.H.length s' a' w') a w

/-- What is known of functions. -/
def KnownOK (E : Env) : Prop := ∀ f args r, E.O f args = some r → (∃ fn c, E.P.funcs[f]? = some fn ∧ fn.body = some c) ∧ PureOK E.P f args r

section
variable {P : Program} {Z : Nat → Prop} {w : World} {ρ : Rho} {B : Nat} {H : Heap}

theorem relA_replicate (n : Nat) : RelA Z w ρ (List.replicate n .undef) (Array.replicate n Go.undef) :=
  ⟨by simp, fun i hi hi' => by simp only [List.getElem_replicate, Array.getElem_replicate]; exact rel_undef⟩

/-- On the way out: the marks. -/
theorem leaves_ok {fn : Func} {tmps : Array Value} {R : Ending → World → Prop} {m D n : Nat} {Z' : Nat → Prop} {ρ' : Rho} {T : List AV} {H' : Heap} (hzl : ∀ b, Z b → b < w.heap.size) (hwD : w.heap.size ≤ D) (hBD : B ≤ D)
    (hfin : ∀ w2, Ext B Z w ρ n Z' w2 ρ' → RelA Z' w2 ρ' T tmps → HRel B Z' w2 ρ' H' → ∃ v, (results fn tmps).run P w2 = .ok v w2 ∧ R (.returned v) w2) :
    ∀ (rs : List Nat) (w' : World), rs.Nodup → (∀ r ∈ rs, D ≤ r ∧ w'.heap[r]? = some (.deferred (some []))) → Ext B Z w ρ n Z' w' ρ' → RelA Z' w' ρ' T tmps → HRel B Z' w' ρ' H' →
    LeavesInM (FW none) m P fn tmps R (rs.map fun r => { target := .collected r, args := #[] }) .returning w'
  | [], w', _, _, e, hT, hH => hfin w' e hT hH
  | r :: rs, w', hnd, hrs, e, hT, hH => by
    obtain ⟨hDr, hr⟩ := hrs r (by simp)
    have hrlt := lt_of_some hr
    have nother : ∀ b, b ≠ r → (w'.putObj r (.deferred none)).heap[b]? = w'.heap[b]? := fun b hb => World.putObj_heap_other hb
    have shp : ∀ b s, w'.shape? b = some s → (w'.putObj r (.deferred none)).shape? b = some s := by
      intro b s hs
      have hne : b ≠ r := by
        intro he
        subst he
        unfold World.shape? at hs
        rw [hr] at hs
        simp at hs
      unfold World.shape? at hs ⊢
      rw [nother b hne]; exact hs
    have zne : ∀ b, Z' b → b ≠ r := by
      intro b hb he
      subst he
      obtain ⟨c, t, fr, h⟩ := hH.zc b hb
      rw [hr] at h
      simp at h
    have e2 : Ext B Z w ρ n Z' (w'.putObj r (.deferred none)) ρ' := by
      refine ⟨e.z, e.zb, fun b hb => ?_, e.rho, fun b s hs => shp b s (e.shape b s hs), fun b ds hb => ?_, ?_, fun b l hb => ?_⟩
      · rw [nother b (zne b (e.z b hb))]; exact e.same b hb
      · have := lt_of_some hb
        rw [nother b (by omega)]; exact e.defer b ds hb
      · refine ⟨e.below.os, e.below.tape, e.below.output, by have := e.below.size; simp; omega, fun k hk => ?_⟩
        rw [nother k (by omega)]; exact e.below.block k hk
      · obtain ⟨l', hl⟩ := e.isloop b l hb
        have := lt_of_some hb
        exact ⟨l', by rw [nother b (by omega)]; exact hl⟩
    have live : ∀ id k b base, H'[id]? = some k → k.live → ρ' id = some (b, base) → b ≠ r := by
      intro id k b base h1 h2 h3 he
      subst he
      cases k with
      | dead => exact h2
      | cells cs =>
        obtain ⟨_, c, t, g, _⟩ := hH.cells id cs b base h1 h3
        rw [hr] at g
        simp at g
      | loop tm ps as bo st pd =>
        obtain ⟨_, _, fn, tmv, dfr, g, _⟩ := hH.loop id tm ps as bo st pd b base h1 h3
        rw [hr] at g
        simp at g
    have hH2 : HRel B Z' (w'.putObj r (.deferred none)) ρ' H' :=
      hH.kept0 (fun _ h => h) (fun b hb => nother b (zne b hb)) shp (by simp) (fun b hb => .inl hb) (fun b hb => by obtain ⟨c, t, fr, h⟩ := hH.zc b hb; exact ⟨c, t, fr, by rw [nother b (zne b hb)]; exact h⟩)
        (fun id k b base h1 h2 h3 => nother b (live id k b base h1 h2 h3))
    have hT2 : RelA Z' (w'.putObj r (.deferred none)) ρ' T tmps := ⟨hT.1, fun i hi hi' => (hT.2 i hi hi').mono' (fun _ h => h) (fun b hb => nother b (zne b hb)) shp ρ' (fun _ _ h => h)⟩
    have hnd' := List.nodup_cons.1 hnd
    refine ⟨by simp, .inl ⟨r, _, rfl, run_takeDeferred hr, ?_⟩⟩
    refine leaves_ok hzl hwD hBD hfin rs _ hnd'.2 (fun r' hr' => ?_) e2 hT2 hH2
    have hne : r' ≠ r := fun he => hnd'.1 (he ▸ hr')
    exact ⟨(hrs r' (by simp [hr'])).1, by rw [nother r' hne]; exact (hrs r' (by simp [hr'])).2⟩

theorem fn_ok {E : Env} {run : Run} (hR : RunOK E.P run) {f : FuncId} {args : List AV} {H' : Heap} {r : AV} (h : axFn E run f args H = some (r, H')) {vs : Array Value} (ha : RelA Z w ρ args vs) (hH : HRel B Z w ρ H) :
    (∃ fn c, E.P.funcs[f]? = some fn ∧ fn.body = some c) ∧ Calls E.P f vs w (RPost B Z w ρ H.length r H') := by
  unfold axFn at h
  split at h <;> try (simp at h; done)
  rename_i fn hfn
  split at h <;> try (simp at h; done)
  rename_i c hc
  refine ⟨⟨fn, c, hfn, hc⟩, ?_⟩
  have hT : RelA Z w ρ (args ++ List.replicate (fn.ntmps - args.length) .undef) (vs ++ Array.replicate (fn.ntmps - vs.size) undef) := by
    rw [← ha.1]
    exact relA_append ha (relA_replicate _)
  have key : ∀ ex s, run c ⟨args ++ List.replicate (fn.ntmps - args.length) .undef, H⟩ = some (ex, s) → resultsA E.P fn s = some r → s.H = H' → (ex = .normal ∨ ex = .ret) → Calls E.P f vs w (RPost B Z w ρ H.length r H') := by
    intro ex s hrun hres hsH hex
    refine (callsIn_FW (ro := none) (n := 0)).1 (callsIn_of_wp_marks hfn hc trivial ?_ rfl)
    refine wpIn_mono (hR c _ ex s hrun none 0 B w.heap.size Z w ρ _ hT hH (DefOK.nil _ _) (Nat.le_refl _) hH.big (fun l hl => by simp at hl)) fun e a' w' hp => ?_
    obtain ⟨rfl, Z', ρ', q1, q2, q3, ⟨rs, q4, q5, q6⟩, q7⟩ := hp
    have hL : LeavesInM (FW none) 0 E.P fn a'.tmps (RPost B Z w ρ H.length r H') a'.defers .returning w' := by
      rw [q4]
      refine leaves_ok hH.zlt (Nat.le_refl _) hH.big (fun w2 e2 hT2 hH2 => ?_) rs w' q5 q6 q1 q2 q3
      obtain ⟨v, hv, hrv⟩ := run_results hH2 hT2 hres
      exact ⟨v, hv, v, Z', ρ', rfl, e2, hsH ▸ hH2, hrv, hsH ▸ q7⟩
    rcases hex with rfl | rfl <;> exact hL
  split at h <;> try (simp at h; done)
  · rename_i s hs
    split at h <;> try (simp at h; done)
    rename_i v hv
    simp at h
    obtain ⟨rfl, rfl⟩ := h
    exact key _ _ hs hv rfl (.inl rfl)
  · rename_i s hs
    split at h <;> try (simp at h; done)
    rename_i v hv
    simp at h
    obtain ⟨rfl, rfl⟩ := h
    exact key _ _ hs hv rfl (.inr rfl)

/-- A function that only computes, from a run of its own. -/
theorem pure_of_fn {E : Env} {run : Run} (hR : RunOK E.P run) {f : FuncId} {xs : List AV} {H1 : Heap} {r r' : AV} {ids : List Nat} {d : Nat} (h : axFn E run f xs [] = some (r, H1)) (hv : view H1 d r = some (r', ids)) : PureOK E.P f xs r' := by
  intro w Z vs hz ha
  have hH : HRel w.heap.size Z w noRho [] := by
    constructor
    · intro id x hx; simp [noRho] at hx
    · intro id cs b base hx; simp at hx
    · intro id tm ps as bo st pd b base hx; simp at hx
    · intro id id' b base base' k k' hx; simp at hx
    · intro id b base hx; simp [noRho] at hx
    · intro b hb; obtain ⟨c, t, fr, h⟩ := hz b hb; exact lt_of_some h
    · exact Nat.le_refl _
    · exact hz
  refine (fn_ok hR h ha hH).2.mono fun e w' hp => ?_
  obtain ⟨v, Z', ρ', rfl, q1, q2, q3, q4⟩ := hp
  obtain ⟨f1, f2⟩ := q2.freeze (view_ids d r r' ids hv)
  refine ⟨v, zcall Z' ρ' ids, rfl, q1.below, fun b hb => .inl (q1.z b hb), fun b hb => ?_, f2.zc, view_rel q2 (Zc := zcall Z' ρ' ids) (fun b hb => .inl hb) d r r' ids v hv q3 (fun id hid b base hr => .inr ⟨id, hid, base, hr⟩)⟩
  rcases hb with hb | ⟨id, _, base, hr⟩
  · exact q1.zb b hb
  · exact .inr (q2.low _ _ _ hr).1

/-- A call of a function that only computes. -/
theorem pure_call {f : FuncId} {args xs : List AV} {r : AV} {ids : List Nat} {d : Nat} (hp : PureOK P f xs r) (hv : viewL (view H d) args = some (xs, ids)) {vs : Array Value} (ha : RelA Z w ρ args vs) (hH : HRel B Z w ρ H) :
    Calls P f vs w (RPost B Z w ρ H.length r (kill H ids)) := by
  have hids := viewL_ids (f := view H d) (Q := fun id => ∃ cs, H[id]? = some (.cells cs)) (fun v v' ids h => view_ids d v v' ids h) args xs ids hv
  obtain ⟨e1, h1⟩ := hH.freeze hids
  obtain ⟨v1, v2⟩ := viewL_rel (f := view H d) (Zc := zcall Z ρ ids) (w := w) (ρ := ρ) (Z := Z) (Q := fun id => ∀ b base, ρ id = some (b, base) → zcall Z ρ ids b)
    (fun v v' ids' x g1 g2 g3 => view_rel hH (fun b hb => .inl hb) d v v' ids' x g1 g2 g3) args xs ids hv (fun id hid b base hr => .inr ⟨id, hid, base, hr⟩)
  have hxs : RelA (zcall Z ρ ids) w noRho xs vs := ⟨v1.trans ha.1, fun i hi hi' => v2 i hi (v1 ▸ hi) _ (ha.2 i (v1 ▸ hi) hi')⟩
  refine (hp w (zcall Z ρ ids) vs h1.zc hxs).mono fun e w' hq => ?_
  obtain ⟨v, Z', rfl, q1, q2, q3, q4, q5⟩ := hq
  have e2 : Ext B (zcall Z ρ ids) w ρ H.length Z' w' ρ := by
    refine ⟨q2, fun b hb => (q3 b hb).elim .inl (fun h => .inr (Nat.le_trans hH.big h)), fun b hb => q1.block b (h1.zlt b hb), fun _ _ => rfl, fun b s hs => ?_, fun r ds hr => ?_, ?_, fun b l hb => ⟨l, ?_⟩⟩
    · unfold World.shape? at hs ⊢
      by_cases hlt : b < w.heap.size
      · rw [q1.block b hlt]; exact hs
      · rw [Array.getElem?_eq_none (Nat.le_of_not_lt hlt)] at hs; simp at hs
    · rw [q1.block r (lt_of_some hr)]; exact hr
    · exact ⟨q1.os, q1.tape, q1.output, q1.size, fun k hk => q1.block k (Nat.lt_of_lt_of_le hk hH.big)⟩
    · rw [q1.block b (lt_of_some hb)]; exact hb
  have h2 : HRel B Z' w' ρ (kill H ids) := h1.kept (by rw [kill_length]; exact e2) q3 q4 (fun id k b base _ _ hr => q1.block b (hH.low _ _ _ hr).2)
  refine ⟨v, Z', ρ, rfl, e1.trans e2 (Nat.le_refl _), h2, ?_, by rw [kill_length]; exact Nat.le_refl _⟩
  exact q5.mono' (fun _ h => h) (fun _ _ => rfl) (fun _ _ h => h) ρ (fun id y h => by simp [noRho] at h)

theorem call_ok {E : Env} (hE : KnownOK E) {run : Run} (hR : RunOK E.P run) : CallOK E.P (axCall E run) := by
  intro f args H r H' h B Z w ρ vs ha hH
  unfold axCall at h
  split at h
  · exact fn_ok hR h ha hH
  · split at h <;> try (simp at h; done)
    rename_i xs ids hv
    split at h <;> try (simp at h; done)
    rename_i r1 H1 h1
    split at h <;> try (simp at h; done)
    rename_i r2 ids2 h2
    simp at h
    obtain ⟨rfl, rfl⟩ := h
    refine ⟨?_, pure_call (pure_of_fn hR h1 h2) hv ha hH⟩
    unfold axFn at h1
    split at h1 <;> try (simp at h1; done)
    rename_i fn hfn
    split at h1 <;> try (simp at h1; done)
    rename_i c hc
    exact ⟨fn, c, hfn, hc⟩
  · split at h <;> try (simp at h; done)
    rename_i xs ids hv
    split at h <;> try (simp at h; done)
    rename_i r1 h1
    simp at h
    obtain ⟨rfl, rfl⟩ := h
    obtain ⟨g1, g2⟩ := hE _ _ _ h1
    exact ⟨g1, pure_call g2 hv ha hH⟩

end
end Go.AX

/- AX, part 15: rounds and code. -/
set_option linter.unusedVariables false
set_option linter.unusedSimpArgs false
namespace Go.AX
open Go Go.RowKit

/-- A region whose order is open. -/
def DrawOK (E : Env) : Prop := ∀ (R : Rec), CallOK E.P R.call → RoundOK E.P R.round → ∀ (ops : Array Oper) s s', axDraw E R ops.toList s = some s' → ∀ ro m B D Z w ρ a, RelA Z w ρ s.T a.tmps → HRel B Z w ρ s.H → DefOK D w a.defers → ∀ id,
  (Code.region id ops true).wpIn (FW ro) m E.P (fun e a' w' => e = .normal ∧ Post B D Z w ρ s.H.length s' a' w') a w

section
variable {P : Program} {Z : Nat → Prop} {w : World} {ρ : Rho} {B : Nat} {H : Heap}

theorem bind_rel : ∀ (ps : List Tmp) (as : List AV) (T : List AV) (vs : List Value) (tmps : Array Value), RelA Z w ρ T tmps → as.length = ps.length → as.length = vs.length → (∀ i (h : i < as.length) (h' : i < vs.length), Rel Z w ρ as[i] vs[i]) →
    RelA Z w ρ (bindP T ps as) ((ps.zip vs).foldl (fun tmps (t, a) => tmps.setIfInBounds t a) tmps)
  | [], as, T, vs, tmps, hT, h1, h2, h3 => by
    cases as with
    | nil => simpa [bindP] using hT
    | cons a as => simp at h1
  | p :: ps, as, T, vs, tmps, hT, h1, h2, h3 => by
    match as, vs, h1, h2, h3 with
    | a :: as, v :: vs, h1, h2, h3 =>
      simp only [bindP, List.zip_cons_cons, List.foldl_cons]
      refine bind_rel ps as _ vs _ ?_ (by simpa using h1) (by simpa using h2) (fun i hi hi' => h3 (i + 1) (Nat.succ_lt_succ hi) (Nat.succ_lt_succ hi'))
      have hr : Rel Z w ρ a v := h3 0 (by simp) (by simp)
      exact put_relA (a := { tmps := tmps, defers := [] }) hT (some p) hr

theorem round_ok {run : Run} (hR : RunOK P run) : RoundOK P (axRound run) := by
  intro id args H r H' h B Z w ρ vs b hb ha hH
  unfold axRound at h
  split at h <;> try (simp at h; done)
  rename_i tm ps as bo st pd hl
  split at h <;> try (simp at h; done)
  rename_i hc
  obtain ⟨rfl, hlen⟩ := hc
  split at h <;> try (simp at h; done)
  rename_i s1 h1
  split at h <;> try (simp at h; done)
  rename_i tm1 ps1 as1 bo1 pd1 hl1
  split at h <;> try (simp at h; done)
  rename_i ex s2 h2
  split at h <;> try (simp at h; done)
  rename_i tm2 ps2 as2 bo2 st2 pd2 hl2
  simp only [Option.some.injEq, Prod.mk.injEq] at h
  obtain ⟨rfl, rfl⟩ := h
  obtain ⟨nz, _, fn, tmv, dfr, hw, hrt⟩ := hH.loop _ _ _ _ _ _ _ _ _ hl hb
  have hargs : vs.size = ps.toArray.size := by rw [← ha.1, hlen]; simp
  refine ⟨fn, (ps.toArray.zip vs).foldl (fun tmps (t, a) => tmps.setIfInBounds t a) tmv, as, bo, run_yield hw hargs, fun ro m => ?_⟩
  have hT : RelA Z w ρ (bindP tm ps args) ((ps.toArray.zip vs).foldl (fun tmps (t, a) => tmps.setIfInBounds t a) tmv) := by
    have := bind_rel ps args tm vs.toList tmv hrt hlen (by simpa using ha.1) (fun i hi hi' => by have := ha.2 i hi (by simpa using hi'); rwa [Array.getElem_toList])
    have hz : (ps.toArray.zip vs).foldl (fun tmps (t, a) => tmps.setIfInBounds t a) tmv = (ps.zip vs.toList).foldl (fun tmps (t, a) => tmps.setIfInBounds t a) tmv := by
      rw [← Array.foldl_toList]
      simp [Array.toList_zip]
    rw [hz]; exact this
  refine roundIn_of_wpIn (F := FW ro) trivial ?_
  refine wpIn_mono (hR as _ _ s1 h1 (some b) m B w.heap.size Z w ρ { tmps := _, defers := [] } hT hH (DefOK.nil _ _) (Nat.le_refl _) hH.big (fun l hl' => by simp at hl'; subst hl'; exact ⟨_, hw⟩)) fun e a1 w1 hp => ?_
  obtain ⟨rfl, Z1, ρ1, q1, q2, q3, q4, q5⟩ := hp
  have hb1 : ρ1 id = some (b, 0) := by rw [q1.rho id (hH.dom _ _ hb)]; exact hb
  obtain ⟨nz1, _, fn1, tmv1, dfr1, hw1, hrt1⟩ := q3.loop _ _ _ _ _ _ _ _ _ hl1 hb1
  obtain ⟨e2, hH2⟩ := q3.setLoop hl1 hb1 hw1 hrt1 .busy pd1
  refine ⟨_, run_beginRound hw1 rfl, ?_⟩
  refine wpIn_mono (hR bo _ _ s2 h2 (some b) m B w.heap.size Z1 _ ρ1 a1 (q2.mono e2 q3.dom) hH2 (q4.mono e2) (Nat.le_trans q1.below.size e2.below.size) hH.big (fun l hl' => by simp at hl'; subst hl'; exact e2.isloop b _ hw1)) fun e a2 w2 hp => ?_
  obtain ⟨rfl, Z2, ρ2, g1, g2, g3, g4, g5⟩ := hp
  have hidlt : id < s1.H.length := q3.dom _ _ hb1
  have hb2 : ρ2 id = some (b, 0) := by rw [g1.rho id (by simpa using hidlt)]; exact hb1
  obtain ⟨nz2, _, fn2, tmv2, dfr2, hw2, hrt2⟩ := g3.loop _ _ _ _ _ _ _ _ _ hl2 hb2
  have fin : ∀ jump : Option Code, jumpOf ex = jump → ∃ v w', (Instr.endRound b jump).run P w2 = .ok v w' ∧ RPost B Z w ρ H.length (.bool (jumpOf ex).isNone) (s2.H.set id (.loop tm2 ps2 as2 bo2 (if (jumpOf ex).isNone then .ready else .done) (jumpOf ex))) (.returned v) w' := by
    intro jump hj
    subst hj
    obtain ⟨e3, hH3⟩ := g3.setLoop hl2 hb2 hw2 hrt2 (if (jumpOf ex).isNone then .ready else .done) (jumpOf ex)
    refine ⟨_, _, run_endRound _ hw2, .bool (jumpOf ex).isNone, Z2, ρ2, rfl, ?_, hH3, .bool _, ?_⟩
    · exact (q1.trans e2 q5).trans (g1.trans e3 g5) (by simpa using q5)
    · have g5' : (s1.H.set id (.loop tm1 ps1 as1 bo1 .busy pd1)).length ≤ s2.H.length := g5
      have q5' : H.length ≤ s1.H.length := q5
      simp at g5' ⊢
      omega
  cases ex with
  | normal => exact fin none rfl
  | exit i => exact fin (some (.exit i)) rfl
  | goto l => exact fin (some (.goto l)) rfl
  | ret => exact fin (some .ret) rfl

theorem thenQ {Q : Exit → Act → World → Prop} {K : Act → World → Prop} {ex : Ex} {a : Act} {w : World} (h1 : ex = .normal → K a w) (h2 : ex ≠ .normal → Q (exOf ex) a w) : Exit.then K Q (exOf ex) a w := by
  cases ex with
  | normal => exact h1 rfl
  | exit i => exact h2 (by simp)
  | goto l => exact h2 (by simp)
  | ret => exact h2 (by simp)

theorem code_ok {E : Env} (hP : ProgOK E.P) (hE : KnownOK E) (hdraw : DrawOK E) : ∀ n, RunOK E.P (axCode E n) := by
  intro n
  induction n using Nat.strongRecOn with
  | _ n ih =>
  intro c s ex s' h ro m B D Z w ρ a hT hH hD hDw hBD hro
  cases n with
  | zero => simp [axCode] at h
  | succ n =>
  have hrec := ih n (Nat.lt_succ_self n)
  have hC : CallOK E.P (recOf E (axCode E n)).call := call_ok hE hrec
  have hRo : RoundOK E.P (recOf E (axCode E n)).round := round_ok hrec
  cases c with
  | skip =>
    simp only [axCode, Option.some.injEq, Prod.mk.injEq] at h
    obtain ⟨rfl, rfl⟩ := h
    exact wpIn_skip ⟨rfl, Post.refl hT hH hD⟩
  | label l =>
    simp only [axCode, Option.some.injEq, Prod.mk.injEq] at h
    obtain ⟨rfl, rfl⟩ := h
    exact wpIn_label ⟨rfl, Post.refl hT hH hD⟩
  | exit i =>
    simp only [axCode, Option.some.injEq, Prod.mk.injEq] at h
    obtain ⟨rfl, rfl⟩ := h
    exact wpIn_exit ⟨rfl, Post.refl hT hH hD⟩
  | goto i =>
    simp only [axCode, Option.some.injEq, Prod.mk.injEq] at h
    obtain ⟨rfl, rfl⟩ := h
    exact wpIn_goto ⟨rfl, Post.refl hT hH hD⟩
  | ret =>
    simp only [axCode, Option.some.injEq, Prod.mk.injEq] at h
    obtain ⟨rfl, rfl⟩ := h
    exact wpIn_ret ⟨rfl, Post.refl hT hH hD⟩
  | refuse r => simp [axCode] at h
  | region id ops draw =>
    simp only [axCode] at h
    split at h <;> try (simp at h; done)
    rename_i s1 hs
    simp only [Option.some.injEq, Prod.mk.injEq] at h
    obtain ⟨rfl, rfl⟩ := h
    cases draw with
    | true =>
      simp only [if_true] at hs
      refine wpIn_mono (hdraw _ hC hRo ops s s1 hs ro m B D Z w ρ a hT hH hD id) fun e a' w' hp => hp
    | false =>
      simp only [Bool.false_eq_true, if_false] at hs
      refine wpIn_region ?_
      rw [List.range_eq_range']
      have := run_ok (D := D) (ro := ro) (m := m) (Q := fun e a' w' => e = exOf .normal ∧ Post B D Z w ρ s.H.length s1 a' w') hP hC hRo ops.toList 0 s s1 Z w ρ a (by simp) hs hT hH hD (fun a' w' hp => ⟨rfl, hp⟩)
      simpa using this
  | seq x y =>
    simp only [axCode] at h
    refine wpIn_seq ?_
    split at h
    · rename_i s1 h1
      refine wpIn_mono (hrec x s _ s1 h1 ro m B D Z w ρ a hT hH hD hDw hBD hro) fun e a1 w1 hp => ?_
      obtain ⟨rfl, Z1, ρ1, q1, q2, q3, q4, q5⟩ := hp
      refine thenQ (fun _ => ?_) (fun hne => absurd rfl hne)
      refine wpIn_mono (hrec y s1 ex s' h ro m B D Z1 w1 ρ1 a1 q2 q3 q4 (Nat.le_trans hDw q1.below.size) hBD (hro.ext q1)) fun e a2 w2 hp => ?_
      exact ⟨hp.1, hp.2.trans q1 q5⟩
    · rename_i hne
      refine wpIn_mono (hrec x s ex s' h ro m B D Z w ρ a hT hH hD hDw hBD hro) fun e a1 w1 hp => ?_
      obtain ⟨rfl, hp⟩ := hp
      refine thenQ (fun he => ?_) (fun _ => ⟨rfl, hp⟩)
      subst he
      exact absurd h (hne s')
  | cond c x y =>
    simp only [axCode] at h
    split at h <;> try (simp at h; done)
    · rename_i hc
      have hr := ev_rel hT hc
      generalize hx : a.eval c = v at hr
      cases hr
      exact wpIn_cond_true hx (hrec x s ex s' h ro m B D Z w ρ a hT hH hD hDw hBD hro)
    · rename_i hc
      have hr := ev_rel hT hc
      generalize hx : a.eval c = v at hr
      cases hr
      exact wpIn_cond_false hx (hrec y s ex s' h ro m B D Z w ρ a hT hH hD hDw hBD hro)
  | block id b =>
    simp only [axCode] at h
    refine wpIn_block ?_
    split at h
    · rename_i id' s1 h1
      refine wpIn_mono (hrec b s _ s1 h1 ro m B D Z w ρ a hT hH hD hDw hBD hro) fun e a1 w1 hp => ?_
      obtain ⟨rfl, hp⟩ := hp
      simp only [exOf, Exit.inBlock]
      by_cases hid : id' = id
      · rw [if_pos hid] at h ⊢
        simp only [Option.some.injEq, Prod.mk.injEq] at h
        obtain ⟨rfl, rfl⟩ := h
        exact ⟨rfl, hp⟩
      · rw [if_neg hid] at h ⊢
        simp only [Option.some.injEq, Prod.mk.injEq] at h
        obtain ⟨rfl, rfl⟩ := h
        exact ⟨rfl, hp⟩
    · rename_i hne
      refine wpIn_mono (hrec b s ex s' h ro m B D Z w ρ a hT hH hD hDw hBD hro) fun e a1 w1 hp => ?_
      obtain ⟨rfl, hp⟩ := hp
      cases ex with
      | exit i => exact absurd h (hne i s')
      | normal => exact ⟨rfl, hp⟩
      | goto l => exact ⟨rfl, hp⟩
      | ret => exact ⟨rfl, hp⟩
  | scope b =>
    simp only [axCode] at h
    refine wpIn_scope' ?_
    split at h
    · simp at h
    · rename_i hne
      refine wpIn_mono (hrec b s ex s' h ro m B D Z w ρ a hT hH hD hDw hBD hro) fun e a1 w1 hp => ?_
      obtain ⟨rfl, hp⟩ := hp
      cases ex with
      | goto i => exact absurd h (hne i s')
      | normal => exact ⟨rfl, hp⟩
      | exit l => exact ⟨rfl, hp⟩
      | ret => exact ⟨rfl, hp⟩
  | loop b =>
    refine wpIn_loop' (fun j a1 w1 => j ≤ n + 1 ∧ ∃ s1 Z1 ρ1, axCode E j (.loop b) s1 = some (ex, s') ∧ Ext B Z w ρ s.H.length Z1 w1 ρ1 ∧ RelA Z1 w1 ρ1 s1.T a1.tmps ∧ HRel B Z1 w1 ρ1 s1.H ∧ DefOK D w1 a1.defers ∧ s.H.length ≤ s1.H.length) (j := n + 1)
      ⟨Nat.le_refl _, s, Z, ρ, h, Ext.refl .., hT, hH, hD, Nat.le_refl _⟩ ?_
    intro j a1 w1 hI
    obtain ⟨hj, s1, Z1, ρ1, h1, q1, q2, q3, q4, q5⟩ := hI
    cases j with
    | zero => simp [axCode] at h1
    | succ j =>
      simp only [axCode] at h1
      have hrj := ih j (by omega)
      split at h1
      · rename_i s2 h2
        refine wpIn_mono (hrj b s1 _ s2 h2 ro m B D Z1 w1 ρ1 a1 q2 q3 q4 (Nat.le_trans hDw q1.below.size) hBD (hro.ext q1)) fun e a2 w2 hp => ?_
        obtain ⟨rfl, Z2, ρ2, g1, g2, g3, g4, g5⟩ := hp
        exact ⟨j, Nat.lt_succ_self j, by omega, s2, Z2, ρ2, h1, q1.trans g1 q5, g2, g3, g4, by omega⟩
      · rename_i hne
        refine wpIn_mono (hrj b s1 ex s' h1 ro m B D Z1 w1 ρ1 a1 q2 q3 q4 (Nat.le_trans hDw q1.below.size) hBD (hro.ext q1)) fun e a2 w2 hp => ?_
        obtain ⟨rfl, hp⟩ := hp
        refine thenQ (fun he => ?_) (fun _ => ⟨rfl, hp.trans q1 q5⟩)
        subst he
        exact absurd h1 (hne s')
  | rangeFunc f ps as bo =>
    simp only [axCode] at h
    split at h <;> try (simp at h; done)
    rename_i g first captured hf
    split at h <;> try (simp at h; done)
    rename_i r2 H2 h2
    split at h <;> try (simp at h; done)
    rename_i tm ps2 as2 bo2 st2 pd2 hl2
    split at h <;> try (simp at h; done)
    rename_i hst
    have hfr := ev_rel hT hf
    generalize hx : a.eval f = xf at hfr
    cases hfr with
    | func hfn g1 g2 g3 g4 =>
    rename_i fn' fa ga
    cases hfn
    refine wpIn_rangeFunc fun fn _ => ?_
    -- the record, laid
    have hlay : ∃ (l : Nat) (mark : List Deferred) (w1 : World) (ρ1 : Rho), (Instr.enterLoop fn a.tmps ps as bo (FW ro).round).run E.P w = .ok (l, mark) w1 ∧ Ext B Z w ρ s.H.length Z w1 ρ1 ∧
        HRel B Z w1 ρ1 (s.H ++ [.loop s.T ps.toList as bo .ready none]) ∧ ρ1 s.H.length = some (l, 0) ∧ DefOK D w1 (mark ++ a.defers) := by
      cases ro with
      | none =>
        obtain ⟨e1, hH1⟩ := hH.other (.deferred (some []))
        obtain ⟨e2, hH2⟩ := hH1.allocLoop (hT.mono e1 hH.dom) fn ps.toList as bo .ready none w.heap.size
        refine ⟨w.heap.size + 1, [{ target := .collected w.heap.size, args := #[] }], _, upd ρ s.H.length (w.heap.size + 1, 0), run_enterLoop_outer fn a.tmps ps as bo, ?_, ?_, ?_, ?_⟩
        · simpa [loopObj] using e1.trans e2 (Nat.le_refl _)
        · simpa [loopObj] using hH2
        · exact upd_same ..
        · obtain ⟨rs, k1, k2, k3⟩ := hD.mono (e1.trans e2 (Nat.le_refl _))
          have hold : ∀ r ∈ rs, r < w.heap.size := by
            obtain ⟨rs', k1', _, k3'⟩ := hD
            have : rs = rs' := by
              have := k1.symm.trans k1'
              have hinj := congrArg (List.map fun d : Deferred => match d.target with | .collected r => r | _ => 0) this
              simpa [Function.comp_def] using hinj
            subst this
            exact fun r hr => lt_of_some (k3' r hr).2
          refine ⟨w.heap.size :: rs, by simp [k1], List.nodup_cons.2 ⟨fun hm => by have := hold _ hm; omega, k2⟩, fun r hr => ?_⟩
          rcases List.mem_cons.1 hr with rfl | hr
          · exact ⟨hDw, by rw [alloc_old (by simp)]; exact alloc_new⟩
          · have := k3 r hr
            simpa [loopObj] using this
      | some l0 =>
        obtain ⟨r0, hr0⟩ := hro l0 rfl
        obtain ⟨e2, hH2⟩ := hH.allocLoop hT fn ps.toList as bo .ready none r0.defers
        refine ⟨w.heap.size, [], _, upd ρ s.H.length (w.heap.size, 0), run_enterLoop_inner hr0 fn a.tmps ps as bo, ?_, ?_, ?_, ?_⟩
        · simpa [loopObj] using e2
        · simpa [loopObj] using hH2
        · exact upd_same ..
        · simpa [loopObj] using hD.mono e2
    obtain ⟨l, mark, w1, ρ1, hent, e1, hH1, hρ1, hD1⟩ := hlay
    have hy : RelA Z w1 ρ1 [.func (.yield s.H.length) [] []] #[.func (.yield l) #[] #[]] := by
      refine ⟨rfl, fun i hi hi' => ?_⟩
      have : i = 0 := by simp at hi; exact hi
      subst this
      exact .func (.yield hρ1) rfl (fun i hi _ => by simp at hi) rfl (fun i hi _ => by simp at hi)
    have hall := relA_append (relA_append ((relA_of g1 g2).mono e1 hH.dom) hy) ((relA_of g3 g4).mono e1 hH.dom)
    obtain ⟨⟨fn1, c1, k1, k2⟩, hcall⟩ := call_ok hE hrec g _ _ _ _ h2 B Z w1 ρ1 _ hall hH1
    have hrun := run_callFunc hP k1 k2 (fa ++ #[.func (.yield l) #[] #[]] ++ ga) w1
    refine ⟨l, mark, w1, { target := .fn (.func g) ga, args := fa ++ #[.func (.yield l) #[] #[]] }, w1, g, fa ++ #[.func (.yield l) #[] #[]] ++ ga, w1, hent, ?_, fun _ _ => trivial, ?_, fun hd => by simp [FW] at hd, ?_⟩
    · simp only [resolve, rangeCall, hx, Deferred.ofValue, Sem.run_pure]
      simp [Act.eval]
    · simp only [invoke, hrun]
    · refine callsIn_FW.2 (hcall.mono fun e w2 hp => ?_)
      obtain ⟨v, Z2, ρ2, rfl, q1, q2, q3, q4⟩ := hp
      have hlen1 : (s.H ++ [Blk.loop s.T ps.toList as bo .ready none]).length = s.H.length + 1 := by simp
      have hρ2 : ρ2 s.H.length = some (l, 0) := by rw [q1.rho _ (by rw [hlen1]; omega)]; exact hρ1
      obtain ⟨nz2, _, fn2, tmv2, dfr2, hw2, hrt2⟩ := q2.loop _ _ _ _ _ _ _ _ _ hl2 hρ2
      obtain ⟨e3, hH3⟩ := q2.setLoop hl2 hρ2 hw2 hrt2 .exhausted pd2
      have e13 : Ext B Z w ρ s.H.length Z2 _ ρ2 := e1.trans (q1.trans e3 q4) (by rw [hlen1]; omega)
      refine ⟨pd2, _, run_endLoop hw2 hst, ?_⟩
      have hT3 := hT.mono e13 hH.dom
      have hD3 : DefOK D _ (mark ++ a.defers) := (hD1.mono q1).mono e3
      have hlen3 : s.H.length ≤ (H2.set s.H.length (.loop tm ps2 as2 bo2 .exhausted pd2)).length := by simp; rw [hlen1] at q4; omega
      cases pd2 with
      | none =>
        simp only [Option.some.injEq, Prod.mk.injEq] at h
        obtain ⟨rfl, rfl⟩ := h
        exact ⟨rfl, Z2, ρ2, e13, hT3, hH3, hD3, hlen3⟩
      | some c =>
        simp only at h
        refine wpIn_mono (hrec c _ ex s' h ro m B D Z2 _ ρ2 { a with defers := mark ++ a.defers } hT3 hH3 hD3 (Nat.le_trans hDw e13.below.size) hBD (hro.ext e13)) fun e a4 w4 hp => ?_
        exact ⟨hp.1, hp.2.trans e13 hlen3⟩

end
end Go.AX
