/- slices.Insert, as the evaluator takes it: sound, where its walks are known. -/
import Derived.Test.YtiplefdmpcjgcaaGreatEvInsA
namespace Go.Ev
open Go Go.RowKit

section
variable {P : Program} {md : Nat → Md} {w : World} {O X : Nat → Prop} {μ : Mu} {H : List Lv} {L : Lv}

theorem args_three {a b c : AV} {vals : Array Value} (h : Args w O X μ [a, b, c] vals) (ha : a ≠ .un) (hb : b ≠ .un) (hc : c ≠ .un) : ∃ u v x, vals = #[u, v, x] ∧ Rep w O X μ a u ∧ Rep w O X μ b v ∧ Rep w O X μ c x := by
  obtain ⟨h1, h2⟩ := h
  match vals, h1 with
  | ⟨[u, v, x]⟩, _ => exact ⟨u, v, x, rfl, h2 0 a u rfl rfl ha, h2 1 b v rfl rfl hb, h2 2 c x rfl rfl hc⟩

/-- Where the elements of a block that is owned to its end lie. -/
theorem own_row (m : Mem P md w O X μ H L) {b n sz : Nat} {cs : List AV} {sv : Value} (r : Rep w O X μ (.own H.length b 0 n sz false) sv) (hb : L[b]? = some (.cells cs)) (hcs : cs.length = n * sz) (h0 : 0 < n) :
    ∃ (g o c : Nat) (arr : Array Value) (ty : TypeId) (os : List Value), sv = .slice (some ⟨g, o, none⟩) n c ∧ 0 < sz ∧ n ≤ c ∧ μ H.length b = some (g, o) ∧ X g ∧ w.heap[g]? = some (.cells arr ty (0, 0)) ∧ o + c * sz = arr.size ∧
      os.length = n * sz ∧ (∀ (i : Nat) (a : AV) (u : Value), cs[i]? = some a → os[i]? = some u → Rep w O X μ a u) ∧ (∀ (i : Nat) (u : Value), os[i]? = some u → u.oneCell' = true) ∧ (arr.toList.drop o).take (n * sz) = os := by
  cases r with
  | own _ _ _ _ _ _ g o c A hmu hsp hn hA hcl hsh =>
    obtain ⟨ty0, hshape⟩ := hsh rfl
    obtain ⟨g', o', q1, hXg, arr, ty, q2, q3, q4⟩ := m.cur b _ hb AB.cells_live
    rw [hmu] at q1
    simp only [Option.some.injEq, Prod.mk.injEq] at q1
    obtain ⟨rfl, rfl⟩ := q1
    have hcap : o + 0 + c * sz = arr.size := by
      simp only [World.shape?, q2, Option.some.injEq, Prod.mk.injEq] at hshape
      exact hshape.2.symm
    have hc0 : c ≠ 0 := by omega
    refine ⟨g, o, c, arr, ty, (arr.toList.drop o).take (n * sz), by rw [hA hc0]; rfl, hsp, hn, hmu, hXg, q2, by omega, ?_, fun i a u ea eu => ?_, fun i u eu => ?_, rfl⟩
    · simp; omega
    · rw [List.getElem?_take] at eu
      split at eu
      · rw [List.getElem?_drop] at eu
        obtain ⟨u', k1, k2, k3⟩ := q4 i a ea
        rw [Array.getElem?_toList] at eu
        rw [k1] at eu
        cases eu
        exact k3
      · cases eu
    · rw [List.getElem?_take] at eu
      split at eu
      · rename_i hi
        rw [List.getElem?_drop, Array.getElem?_toList] at eu
        have hil : i < cs.length := by omega
        obtain ⟨u', k1, k2, k3⟩ := q4 i _ (List.getElem?_eq_getElem hil)
        rw [k1] at eu
        cases eu
        exact k2
      · cases eu

/-- Another block's row. -/
theorem own_far (m : Mem P md w O X μ H L) {l b b2 i n sz : Nat} {cl : Bool} {cs : List AV} {sv : Value} {ys : List (List AV)} (r : Rep w O X μ (.own l b2 i n sz cl) sv) (he : elems H L (.own l b2 i n sz cl) = some ys) (h0 : 0 < n) (hb : L[b]? = some (.cells cs)) (hne : ¬ (l = H.length ∧ b2 = b))
    {g o : Nat} (hmu : μ H.length b = some (g, o)) (hX : X g) : ∃ (g2 o2 : Nat) (arr : Array Value) (ty : TypeId) (c : Nat), sv = .slice (some ⟨g2, o2, none⟩) n c ∧ n ≤ c ∧ g2 ≠ g ∧ w.heap[g2]? = some (.cells arr ty (0, 0)) := by
  cases r with
  | own _ _ _ _ _ _ g2 o2 c A hmu2 hsp hn hA hcl hsh =>
    have hc0 : c ≠ 0 := by omega
    simp only [elems] at he
    cases hb2 : getB H L l b2 with
    | none => rw [hb2] at he; cases he
    | some ab =>
      rw [hb2] at he
      cases ab with
      | cells cs2 =>
        obtain ⟨g', o', q1, arr, ty, q2, q3, q4⟩ := m.at hb2 AB.cells_live
        rw [hmu2] at q1
        simp only [Option.some.injEq, Prod.mk.injEq] at q1
        obtain ⟨rfl, rfl⟩ := q1
        refine ⟨g2, o2 + i, arr, ty, c, by rw [hA hc0], hn, fun e => ?_, q2⟩
        subst e
        by_cases hl : l = H.length
        · subst hl
          rw [getB_cur] at hb2
          exact hne ⟨rfl, m.inj b2 b _ _ g2 o2 o hb2 AB.cells_live hb AB.cells_live hmu2 hmu⟩
        · by_cases hl2 : l < H.length
          · obtain ⟨g', o', p1, p2, _⟩ := m.old l b2 _ hl2 hb2 AB.cells_live
            rw [hmu2] at p1
            simp only [Option.some.injEq, Prod.mk.injEq] at p1
            obtain ⟨rfl, rfl⟩ := p1
            exact p2 hX
          · simp only [getB, if_neg hl, if_neg hl2] at hb2
            cases hb2
      | map es => cases he
      | loop _ _ _ _ => cases he
      | dead => cases he

end
end Go.Ev
