/- Regions that draw their order: places, slots, and what the check of a region's order says. -/
import Derived.Test.YtiplefdmpcjgcaaGreatEvDrawA
namespace Go.Ev
open Go Go.RowKit

section
variable {md : Nat → Md} {is : List I}

theorem lo_le : ∀ p, loAt md is p ≤ p
  | 0 => Nat.le_refl _
  | p + 1 => by
    simp only [loAt]
    split
    · exact Nat.le_refl _
    · exact Nat.le_trans (lo_le p) (Nat.le_succ p)

theorem lo_bar : ∀ p, 0 < loAt md is p → barAt md is (loAt md is p - 1) = true
  | 0, h => by simp [loAt] at h
  | p + 1, h => by
    simp only [loAt] at h ⊢
    split
    · rename_i hb; simpa using hb
    · rename_i hb; rw [if_neg hb] at h; exact lo_bar p h

theorem lo_nobar : ∀ p m, loAt md is p ≤ m → m < p → barAt md is m = false
  | 0, m, _, h => by omega
  | p + 1, m, h, h2 => by
    simp only [loAt] at h
    split at h
    · omega
    · rename_i hb
      by_cases e : m = p
      · subst e; simpa using hb
      · exact lo_nobar p m h (by omega)

theorem lo_mono : ∀ p r, p ≤ r → loAt md is p ≤ loAt md is r
  | p, 0, h => by have : p = 0 := by omega
                  subst this; exact Nat.le_refl _
  | p, r + 1, h => by
    by_cases e : p = r + 1
    · subst e; exact Nat.le_refl _
    · refine Nat.le_trans (lo_mono p r (by omega)) ?_
      simp only [loAt]
      split
      · exact Nat.le_trans (lo_le r) (Nat.le_succ r)
      · exact Nat.le_refl _

theorem lo_eq : ∀ p r, p ≤ r → loAt md is r ≤ p → loAt md is p = loAt md is r
  | p, 0, h, _ => by have : p = 0 := by omega
                     subst this; rfl
  | p, r + 1, h, h2 => by
    by_cases e : p = r + 1
    · subst e; rfl
    · simp only [loAt] at h2 ⊢
      split at h2
      · omega
      · rename_i hb; rw [if_neg hb]; exact lo_eq p r (by omega) h2

theorem slot_mono : ∀ r m, loAt md is r ≤ m → m ≤ r → slotAt md is m ≤ slotAt md is r
  | 0, m, _, h => by have : m = 0 := by omega
                     subst this; exact Nat.le_refl _
  | r + 1, m, h, h2 => by
    by_cases e : m = r + 1
    · subst e; exact Nat.le_refl _
    · simp only [loAt] at h
      simp only [slotAt]
      split at h
      · omega
      · rename_i hb
        rw [if_neg hb]
        have := slot_mono r m h (by omega)
        split <;> omega

theorem slot_lt {r m : Nat} (h : loAt md is r ≤ m) (h2 : m < r) (hm : mkAt is m = true) : slotAt md is m < slotAt md is r := by
  have hb := lo_nobar r m h h2
  have h3 := slot_mono (md := md) (is := is) r (m + 1) (by omega) (by omega)
  have : slotAt md is (m + 1) = slotAt md is m + 1 := by simp [slotAt, hb, hm]
  omega

theorem slot_inj {r m k : Nat} (h : loAt md is r ≤ m) (h2 : m < r) (hm : mkAt is m = true) (h' : loAt md is r ≤ k) (h2' : k < r) (hk : mkAt is k = true) (e : slotAt md is m = slotAt md is k) : m = k := by
  rcases Nat.lt_trichotomy m k with h3 | h3 | h3
  · have := slot_lt (md := md) (is := is) (r := k) (m := m) (by rw [lo_eq k r (by omega) (by omega)]; exact h) h3 hm; omega
  · exact h3
  · have := slot_lt (md := md) (is := is) (r := m) (m := k) (by rw [lo_eq m r (by omega) (by omega)]; exact h') h3 hk; omega

theorem slot_cov : ∀ r s, s < slotAt md is r → ∃ m, loAt md is r ≤ m ∧ m < r ∧ mkAt is m = true ∧ slotAt md is m = s
  | 0, s, h => by simp [slotAt] at h
  | r + 1, s, h => by
    simp only [slotAt] at h
    split at h
    · omega
    · rename_i hb
      have hlo : loAt md is (r + 1) = loAt md is r := by simp only [loAt]; rw [if_neg hb]
      rw [hlo]
      split at h
      · rename_i hm
        by_cases e : s = slotAt md is r
        · exact ⟨r, lo_le r, by omega, hm, e.symm⟩
        · obtain ⟨m, h1, h2, h3, h4⟩ := slot_cov r s (by omega)
          exact ⟨m, h1, by omega, h3, h4⟩
      · obtain ⟨m, h1, h2, h3, h4⟩ := slot_cov r s h
        exact ⟨m, h1, by omega, h3, h4⟩

/-- What a good check says. -/
structure DOk (md : Nat → Md) (ops : Array Oper) (b : Array Nat) (ord : List Nat) (is : List I) : Prop where
  lo : ord.length = ops.size
  li : is.length = ops.size
  all : ∀ i, i < ops.size → i ∈ ord
  lt : ∀ (p i : Nat), ord[p]? = some i → i < ops.size
  edge : ∀ (j : Nat) (o : Oper), ops[j]? = some o → ∀ e ∈ o.after, Region.binds .any e = true → e.on < j
  tab : ∀ (j i : Nat) (o : Oper), ops[j]? = some o → i < ops.size → bit b j i = true → ∃ e ∈ o.after, Region.binds .any e = true ∧ (e.on = i ∨ bit b e.on i = true)
  ne : ∀ (i j i' j' : Nat), i < j → ord[i]? = some i' → ord[j]? = some j' → i' ≠ j'
  cl : ∀ (i j : Nat) (x y : I) (i' j' : Nat), i < j → is[i]? = some x → is[j]? = some y → ord[i]? = some i' → ord[j]? = some j' → clash x y = true → bit b j' i' = true
  bar : ∀ (i j : Nat) (y : I) (i' j' : Nat), i < j → is[j]? = some y → ord[i]? = some i' → ord[j]? = some j' → isBar md y.i = true → bit b j' i' = true
  bar2 : ∀ (i j : Nat) (x y : I) (i' j' : Nat), i < j → is[i]? = some x → is[j]? = some y → ord[i]? = some i' → ord[j]? = some j' → isBar md x.i = true → bit b j' i' = true ∨ still y.i = true ∨ y.f = true ∧ loAt md is j = i + 1
  sees : ∀ (j : Nat) (y : I) (j' : Nat), is[j]? = some y → ord[j]? = some j' → reads md y.i = true → y.f = false → ∀ r, r ≤ ops.size → j ≤ r → loAt md is r ≤ j → (r = ops.size ∨ barAt md is r = true) →
    y.v.length = slotAt md is r ∧ ∀ (m m' : Nat), m < j → loAt md is j ≤ m → mkAt is m = true → ord[m]? = some m' → y.v[slotAt md is m]? = some true → bit b j' m' = true
  floats : ∀ (j : Nat) (y : I) (j' : Nat), is[j]? = some y → ord[j]? = some j' → y.f = true → reads md y.i = true ∧ y.i.kd = .r ∧ 0 < loAt md is j ∧ y.v.length = slotAt md is (loAt md is j - 1) ∧
    (∀ (m m' : Nat), m < loAt md is j - 1 → loAt md is (loAt md is j - 1) ≤ m → mkAt is m = true → ord[m]? = some m' → y.v[slotAt md is m]? = some true → bit b j' m' = true) ∧
    ∀ r, r ≤ ops.size → j ≤ r → loAt md is r ≤ j → (r = ops.size ∨ barAt md is r = true) → slotAt md is r = 0

theorem seesOk_spec {b : Array Nat} {ord : List Nat} {x : I} {j' i : Nat} (h : seesOk md b ord is x j' i = true) :
    x.v.length = slotAt md is i ∧ ∀ (m m' : Nat), m < i → loAt md is i ≤ m → mkAt is m = true → ord[m]? = some m' → x.v[slotAt md is m]? = some true → bit b j' m' = true := by
  simp only [seesOk, Bool.and_eq_true, decide_eq_true_eq, List.all_eq_true, List.mem_range, Bool.or_eq_true, Bool.not_eq_true', Bool.and_eq_false_iff, decide_eq_false_iff_not] at h
  refine ⟨h.1, fun m m' h1 h2 h3 h4 h5 => ?_⟩
  have := h.2 m h1
  rw [h5, h3] at this
  have hg : ord.getD m 0 = m' := by rw [List.getD_eq_getElem?_getD, h4]; rfl
  rw [hg] at this
  rcases this with ((q | q) | q) | q
  · exact absurd h2 q
  · cases q
  · simp at q
  · exact q

theorem dok_of {ops : Array Oper} {b : Array Nat} {ord : List Nat} (h : drawOk md ops b ord is = true) : DOk md ops b ord is := by
  simp only [drawOk, Bool.and_eq_true, decide_eq_true_eq] at h
  obtain ⟨⟨⟨⟨htab, hlo⟩, hli⟩, hall⟩, hpos⟩ := h
  simp only [List.all_eq_true, List.mem_range] at hall hpos
  have pos : ∀ (j : Nat) (y : I) (j' : Nat), is[j]? = some y → ord[j]? = some j' → _ := fun j y j' hy hj => by
    have := hpos j (by rw [← hli]; exact (List.getElem?_eq_some_iff.1 hy).1)
    rw [hy, hj] at this
    simp only [Bool.and_eq_true, decide_eq_true_eq, List.all_eq_true, List.mem_range] at this
    exact this
  have isx : ∀ (p i : Nat), ord[p]? = some i → ∃ x, is[p]? = some x := fun p i h => by
    have hp : p < is.length := by rw [hli, ← hlo]; exact (List.getElem?_eq_some_iff.1 h).1
    exact ⟨_, List.getElem?_eq_getElem hp⟩
  have pair : ∀ (i j : Nat) (x y : I) (i' j' : Nat), i < j → is[i]? = some x → is[j]? = some y → ord[i]? = some i' → ord[j]? = some j' →
      i' ≠ j' ∧ (clash x y = true → bit b j' i' = true) ∧ (isBar md y.i = true → bit b j' i' = true) ∧ (isBar md x.i = true → bit b j' i' = true ∨ still y.i = true ∨ y.f = true ∧ loAt md is j = i + 1) := by
    intro i j x y i' j' hij hx hy hi hj
    have := (pos j y j' hy hj).1.1.2 i hij
    rw [hx, hi] at this
    simp only [Bool.and_eq_true, Bool.or_eq_true, Bool.not_eq_true', decide_eq_true_eq, bne_iff_ne, ne_eq] at this
    obtain ⟨⟨⟨h1, h2⟩, h3⟩, h4⟩ := this
    refine ⟨h1, fun q => ?_, fun q => ?_, fun q => ?_⟩
    · rw [q] at h2; simpa using h2
    · rw [q] at h3; simpa using h3
    · rw [q] at h4
      rcases h4 with ((h4 | h4) | h4) | h4
      · cases h4
      · exact .inl h4
      · exact .inr (.inl h4)
      · exact .inr (.inr h4)
  have tab : ∀ (j : Nat) (o : Oper), ops[j]? = some o → (∀ e ∈ o.after, Region.binds .any e = true → e.on < j) ∧ ∀ i, i < ops.size → bit b j i = true → ∃ e ∈ o.after, Region.binds .any e = true ∧ (e.on = i ∨ bit b e.on i = true) := by
    intro j o ho
    have hj := (Array.getElem?_eq_some_iff.1 ho).1
    simp only [tableOk, List.all_eq_true, List.mem_range] at htab
    have := htab j hj
    rw [ho] at this
    simp only [Bool.and_eq_true, List.all_eq_true, List.mem_range, Array.all_eq_true_iff_forall_mem, Bool.or_eq_true, Bool.not_eq_true', decide_eq_true_eq] at this
    refine ⟨fun e he hb => ?_, fun i hi hb => ?_⟩
    · rcases this.1 e he with q | q
      · rw [hb] at q; cases q
      · exact q
    · rcases this.2 i hi with q | q
      · rw [hb] at q; cases q
      · simp only [Array.any_eq_true', Bool.and_eq_true, Bool.or_eq_true, beq_iff_eq] at q
        obtain ⟨e, he, k1, k2⟩ := q
        exact ⟨e, he, k1, k2⟩
  refine ⟨hlo, hli, fun i hi => by simpa using hall i hi, fun p i h => ?_, fun j o ho => (tab j o ho).1, fun j i o ho hi => (tab j o ho).2 i hi, fun i j i' j' hij hi hj => ?_, fun i j x y i' j' hij hx hy hi hj => (pair i j x y i' j' hij hx hy hi hj).2.1, fun i j y i' j' hij hy hi hj => ?_, fun i j x y i' j' hij hx hy hi hj => (pair i j x y i' j' hij hx hy hi hj).2.2.2, fun j y j' hy hj hr hf r hrn hjr hlr hend => ?_, fun j y j' hy hj hf => ?_⟩
  · obtain ⟨x, hx⟩ := isx p i h
    exact (pos p x i hx h).1.1.1
  · obtain ⟨x, hx⟩ := isx i i' hi
    obtain ⟨y, hy⟩ := isx j j' hj
    exact (pair i j x y i' j' hij hx hy hi hj).1
  · obtain ⟨x, hx⟩ := isx i i' hi
    exact (pair i j x y i' j' hij hx hy hi hj).2.2.1
  · have := (pos j y j' hy hj).1.2
    rw [hr, hf] at this
    simp only [Bool.not_true, Bool.false_or, Bool.false_eq_true, if_false, List.all_eq_true, List.mem_range, Bool.or_eq_true, Bool.not_eq_true', Bool.and_eq_false_iff, decide_eq_false_iff_not, Bool.and_eq_true, decide_eq_true_eq] at this
    rcases this r (by omega) with ((q | q) | q) | ⟨q1, q2⟩
    · exact absurd hjr q
    · exact absurd hlr q
    · rw [Bool.or_eq_false_iff] at q
      rcases hend with e | e
      · simp [e] at q
      · rw [e] at q; cases q.2
    · refine ⟨q1, fun m m' h1 h2 h3 h4 h5 => ?_⟩
      refine (seesOk_spec q2).2 m m' h1 h2 h3 h4 ?_
      show (y.v.take (slotAt md is j))[slotAt md is m]? = some true
      rw [List.getElem?_take_of_lt (slot_lt h2 h1 h3)]
      exact h5
  · have h0 := pos j y j' hy hj
    have hr : reads md y.i = true := by
      have := h0.2
      rw [hf] at this
      simpa using this
    have := h0.1.2
    rw [hr, hf] at this
    simp only [Bool.not_true, Bool.false_or, if_true, Bool.and_eq_true, decide_eq_true_eq, List.all_eq_true, List.mem_range, Bool.or_eq_true, Bool.not_eq_true', Bool.and_eq_false_iff, decide_eq_false_iff_not] at this
    obtain ⟨⟨⟨h1, h2⟩, h3⟩, h4⟩ := this
    obtain ⟨k1, k2⟩ := seesOk_spec h3
    refine ⟨hr, ?_, h2, k1, k2, fun r hrn hjr hlr hend => ?_⟩
    · cases hk : y.i.kd <;> rw [hk] at h1 <;> first | rfl | cases h1
    · rcases h4 r (by omega) with ((q | q) | q) | q
      · exact absurd hjr q
      · exact absurd hlr q
      · rw [Bool.or_eq_false_iff] at q
        rcases hend with e | e
        · simp [e] at q
        · rw [e] at q; cases q.2
      · exact q

/-! The trace's places. -/

variable {G : GP} {call : CallT} {H : List Lv} {st : Nat → DS} {vv : Nat → AV}

structure Tr (G : GP) (call : CallT) (H : List Lv) (is : List I) (st : Nat → DS) (vv : Nat → AV) : Prop where
  s0 : (st 0).S = []
  step : ∀ p i, is[p]? = some i → stepD G call H i (st p) = some (vv p, st (p + 1))

def blk (md : Nat → Md) (is : List I) (st : Nat → DS) (m : Nat) : AB := ((st (m + 1)).S[slotAt md is m]?).getD .dead

theorem Tr.at (t : Tr G call H is st vv) {p : Nat} (hp : p < is.length) : ∃ x, is[p]? = some x ∧ barAt G.md is p = isBar G.md x.i ∧ mkAt is p = isMk x.i ∧ (st (p + 1)).E = dput x.d (vv p) (st p).E ∧
    (barAt G.md is p = true → (st (p + 1)).S = []) ∧ (barAt G.md is p = false → (st (p + 1)).B = (st p).B ∧ (st (p + 1)).W = (st p).W ∧ (mkAt is p = true → ∃ x, (st (p + 1)).S = (st p).S ++ [x]) ∧ (mkAt is p = false → (st (p + 1)).S = (st p).S)) := by
  have hx := List.getElem?_eq_getElem hp
  obtain ⟨h1, h2, h3⟩ := step_shape (t.step p _ hx)
  have e1 : barAt G.md is p = isBar G.md is[p].i := by simp [barAt, hx]
  have e2 : mkAt is p = isMk is[p].i := by simp [mkAt, hx]
  exact ⟨is[p], hx, e1, e2, h1, by rw [e1]; exact h2, by rw [e1, e2]; exact h3⟩

theorem Tr.len (t : Tr G call H is st vv) : ∀ p, p ≤ is.length → (st p).S.length = slotAt G.md is p
  | 0, _ => by rw [t.s0]; rfl
  | p + 1, h => by
    obtain ⟨x, _, _, _, _, h4, h5⟩ := t.at (p := p) (by omega)
    simp only [slotAt]
    split
    · rename_i hb; rw [h4 hb]; rfl
    · rename_i hb
      obtain ⟨_, _, h6, h7⟩ := h5 (by simpa using hb)
      split
      · rename_i hm; obtain ⟨y, hy⟩ := h6 hm; rw [hy]; simp [t.len p (by omega)]
      · rename_i hm; rw [h7 (by simpa using hm)]; exact t.len p (by omega)

theorem Tr.base (t : Tr G call H is st vv) : ∀ p, p ≤ is.length → (st p).B = (st (loAt G.md is p)).B ∧ (st p).W = (st (loAt G.md is p)).W ∧ (st (loAt G.md is p)).S = []
  | 0, _ => ⟨rfl, rfl, t.s0⟩
  | p + 1, h => by
    obtain ⟨x, _, _, _, _, h4, h5⟩ := t.at (p := p) (by omega)
    simp only [loAt]
    split
    · rename_i hb; exact ⟨rfl, rfl, h4 hb⟩
    · rename_i hb
      obtain ⟨h6, h7, _, _⟩ := h5 (by simpa using hb)
      obtain ⟨k1, k2, k3⟩ := t.base p (by omega)
      exact ⟨h6.trans k1, h7.trans k2, k3⟩

theorem Tr.pre (t : Tr G call H is st vv) : ∀ r m, r ≤ is.length → loAt G.md is r ≤ m → m ≤ r → ∃ Z, (st r).S = (st m).S ++ Z
  | 0, m, _, _, h => by
    have : m = 0 := by omega
    subst this
    exact ⟨[], by simp⟩
  | r + 1, m, hr, h, h2 => by
    by_cases e : m = r + 1
    · subst e; exact ⟨[], by simp⟩
    · obtain ⟨x, _, _, _, _, h4, h5⟩ := t.at (p := r) (by omega)
      simp only [loAt] at h
      split at h
      · omega
      · rename_i hb
        obtain ⟨Z, hZ⟩ := t.pre r m (by omega) h (by omega)
        obtain ⟨_, _, h6, h7⟩ := h5 (by simpa using hb)
        cases hm : mkAt is r with
        | true => obtain ⟨y, hy⟩ := h6 hm; exact ⟨Z ++ [y], by rw [hy, hZ, List.append_assoc]⟩
        | false => exact ⟨Z, by rw [h7 hm, hZ]⟩

theorem Tr.get (t : Tr G call H is st vv) {r m : Nat} (hr : r ≤ is.length) (h : loAt G.md is r ≤ m) (h2 : m < r) (hm : mkAt is m = true) : (st r).S[slotAt G.md is m]? = some (blk G.md is st m) := by
  obtain ⟨Z, hZ⟩ := t.pre r (m + 1) hr (by omega) (by omega)
  have hl := t.len (m + 1) (by omega)
  have hs : slotAt G.md is (m + 1) = slotAt G.md is m + 1 := by simp [slotAt, lo_nobar r m h h2, hm]
  have hlt : slotAt G.md is m < (st (m + 1)).S.length := by omega
  rw [hZ, List.getElem?_append_left hlt, blk, List.getElem?_eq_getElem hlt]
  rfl

end
end Go.Ev
