import Derived.Test.YtiplefdmpcjgcaaGreatDbT4
namespace Go.Ev.S
open Go Go.Ev

def Mb.same (a b : Mb) : Bool := decide (a.g = b.g) && (a.ex == b.ex) && decide (a.left = b.left) && decide (a.srcs = b.srcs)

theorem drop_at {α : Type} (a b : List α) (i : Nat) (ha : i < a.length) (hb : i < b.length) (h : (a = b) ↔ (a.drop i = b.drop i)) : (a = b) ↔ (a[i] = b[i] ∧ a.drop (i + 1) = b.drop (i + 1)) := by
  have e1 := List.drop_eq_getElem_cons ha
  have e2 := List.drop_eq_getElem_cons hb
  rw [h, e1, e2]
  simp only [List.cons.injEq]

theorem same8_loop (H : List Lv) (g left g' left' : Int) (ex ex' : Bool) (fl fl' : SM) (srcs srcs' : List Hd) (hl : srcs.length = srcs'.length) (h64 : srcs.length ≤ 140737488355328) {a0 a1 a33 a38 a51 : AV} {Q : Ex → Tm → Lv → Prop}
    (q1 : srcs = srcs' → ∀ a5 a38 a51, Q (.exit 0) [(0, a0), (1, a1), (2, .ptr H.length 0 0), (3, .ptr H.length 1 0), (4, .bool false), (5, a5), (33, a33), (38, a38), (51, a51)] [.cells [.int .u32 g, .bool ex, .int .i64 left, .sl fl (srcs.map Hd.av)], .cells [.int .u32 g', .bool ex', .int .i64 left', .sl fl' (srcs'.map Hd.av)]])
    (q2 : srcs ≠ srcs' → ∀ a5 a38 a51, Q .ret [(0, a0), (1, a1), (2, .ptr H.length 0 0), (3, .ptr H.length 1 0), (4, .bool false), (5, a5), (33, a33), (38, a38), (51, a51)] [.cells [.int .u32 g, .bool ex, .int .i64 left, .sl fl (srcs.map Hd.av)], .cells [.int .u32 g', .bool ex', .int .i64 left', .sl fl' (srcs'.map Hd.av)]]) :
    @gLoop G H f34l0 [(0, a0), (1, a1), (2, .ptr H.length 0 0), (3, .ptr H.length 1 0), (4, .bool false), (5, .int .i64 0), (33, a33), (38, a38), (51, a51)] [.cells [.int .u32 g, .bool ex, .int .i64 left, .sl fl (srcs.map Hd.av)], .cells [.int .u32 g', .bool ex', .int .i64 left', .sl fl' (srcs'.map Hd.av)]] ⟨Q⟩ := by
  refine gLoop_inv (fun k T M => ∃ (i : Nat) (a38 a51 : AV), k = srcs.length - i ∧ i ≤ srcs.length ∧ M = [.cells [.int .u32 g, .bool ex, .int .i64 left, .sl fl (srcs.map Hd.av)], .cells [.int .u32 g', .bool ex', .int .i64 left', .sl fl' (srcs'.map Hd.av)]] ∧
    T = [(0, a0), (1, a1), (2, .ptr H.length 0 0), (3, .ptr H.length 1 0), (4, .bool false), (5, .int .i64 i), (33, a33), (38, a38), (51, a51)] ∧
    ((srcs = srcs') ↔ srcs.drop i = srcs'.drop i)) srcs.length ?_ ?_
  · exact ⟨0, a38, a51, by simp, by simp, rfl, rfl, by simp⟩
  rintro k T M ⟨i, a38, a51, rfl, hi, rfl, rfl, hall⟩
  by_cases h1 : i < srcs.length
  · have h2 : i < srcs'.length := by omega
    have hw2 : IntKind.i64.wrap ((i : Int) + 1) = (i : Int) + 1 := wrap_i (by omega) (by omega)
    have hd := drop_at srcs srcs' i h1 h2 hall
    have he : (srcs[i] = srcs'[i]) ↔ (srcs[i].a = srcs'[i].a ∧ srcs[i].left = srcs'[i].left) := by
      cases srcs[i]; cases srcs'[i]; simp
    simp [f34l0, f34r4, f34r5, f34r6, f34r7, Hd.av, h1, h2]
    by_cases hx : srcs[i].a = srcs'[i].a
    · by_cases hy : srcs[i].left = srcs'[i].left
      · simp [hx, hy, hw2]
        exact gAgain_intro ⟨srcs.length - (i + 1), by omega, i + 1, _, _, rfl, by omega, rfl, rfl, by rw [hd, he]; simp [hx, hy]⟩
      · simp [hx, hy]
        exact q2 (by rw [Ne, hd, he]; simp [hy]) _ _ _
    · simp [hx]
      exact q2 (by rw [Ne, hd, he]; simp [hx]) _ _ _
  · have h0 : i = srcs.length := by omega
    subst h0
    simp [f34l0, f34r4]
    exact q1 (by rw [hall, List.drop_eq_nil_of_le (Nat.le_refl _), List.drop_eq_nil_of_le (by omega)]) _ _ _

theorem same8_c (H : List Lv) (L : Lv) (a b : Mb) (h64 : a.srcs.length ≤ 140737488355328) : pcall (callW G) H L 34 [.agg a.av, .agg b.av] = some (.bool (a.same b)) := by
  refine pcall_of_wp rfl rfl (by simp [Mb.av]) (by simp [yieldF]) ?_
  obtain ⟨g, ex, left, fl, srcs⟩ := a
  obtain ⟨g', ex', left', fl', srcs'⟩ := b
  simp only at h64
  by_cases h1 : g = g'
  · by_cases h2 : ex = ex'
    · by_cases h3 : left = left'
      · by_cases h4 : srcs.length = srcs'.length
        · simp [f34r0, f34r1, f34r2, f34r3, Mb.av, h1, h2, h3, h4, -Bool.not_eq_eq_eq_not]
          refine same8_loop (L :: H) _ _ _ _ _ _ fl fl' srcs srcs' h4 h64 (fun hq a5 a38 a51 => ?_) (fun hq a5 a38 a51 => ?_)
          · simp [f34r8, Mb.same, h1, h2, h3, hq]
          · simp [Mb.same, hq]
        · have h4' : ¬ (srcs.length : Int) = srcs'.length := by omega
          have h5 : ¬ srcs = srcs' := fun e => h4 (by rw [e])
          simp [f34r0, f34r1, f34r2, Mb.av, h1, h2, h3, h4', h5, Mb.same]
      · simp [f34r0, f34r1, f34r2, Mb.av, h1, h2, h3, Mb.same]
    · have h2' : (ex == ex') = false := by simpa using h2
      simp [f34r0, f34r1, f34r2, Mb.av, h1, h2, h2', Mb.same]
  · simp [f34r0, f34r1, f34r2, Mb.av, h1, Mb.same]

end Go.Ev.S
