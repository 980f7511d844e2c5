import Derived.Test.YtiplefdmpcjgcaaGreatDbT5
namespace Go.Ev.S
open Go Go.Ev

def Pl.same (p q : Pl) : Bool := p.mb.same q.mb && decide (p.port = q.port) && decide (p.v1 = q.v1) && decide (p.v2 = q.v2)

def sameL : List Pl → List Pl → Bool
  | [], [] => true
  | p :: r, q :: s => p.same q && sameL r s
  | _, _ => false

def Dbs.same (a b : Dbs) : Bool := decide (a.keep = b.keep) && decide (a.last = b.last) && decide (a.limit = b.limit) && decide (a.l.length = b.l.length) && sameL a.l b.l

theorem sameL_at (a b : List Pl) (i : Nat) (ha : i < a.length) (hb : i < b.length) : sameL (a.drop i) (b.drop i) = (a[i].same b[i] && sameL (a.drop (i + 1)) (b.drop (i + 1))) := by
  rw [List.drop_eq_getElem_cons ha, List.drop_eq_getElem_cons hb, sameL]

theorem same9_loop (H : List Lv) (k0 t0 m0 k1 t1 m1 : Int) (fl fl' : SM) (l l' : List Pl) (hl : l.length = l'.length) (hlen : l.length ≤ 140737488355328) (hs : ∀ p ∈ l, p.mb.srcs.length ≤ 140737488355328) {a0 a1 a6 a7 a8 a29 a34 a74 : AV} {Q : Ex → Tm → Lv → Prop}
    (q1 : sameL l l' = true → ∀ a5 a6 a7 a8 a34 a74 R, Q (.exit 0) [(0, a0), (1, a1), (2, .ptr H.length 0 0), (3, .ptr H.length 1 0), (4, .bool false), (5, a5), (6, a6), (7, a7), (8, a8), (29, a29), (34, a34), (74, a74)] (.cells [.int .i64 k0, .int .i64 t0, .int .i64 m0, .sl fl (l.map Pl.av)] :: .cells [.int .i64 k1, .int .i64 t1, .int .i64 m1, .sl fl' (l'.map Pl.av)] :: R))
    (q2 : sameL l l' = false → ∀ a5 a6 a7 a8 a34 a74 R, Q .ret [(0, a0), (1, a1), (2, .ptr H.length 0 0), (3, .ptr H.length 1 0), (4, .bool false), (5, a5), (6, a6), (7, a7), (8, a8), (29, a29), (34, a34), (74, a74)] (.cells [.int .i64 k0, .int .i64 t0, .int .i64 m0, .sl fl (l.map Pl.av)] :: .cells [.int .i64 k1, .int .i64 t1, .int .i64 m1, .sl fl' (l'.map Pl.av)] :: R)) :
    @gLoop G H f16l0 [(0, a0), (1, a1), (2, .ptr H.length 0 0), (3, .ptr H.length 1 0), (4, .bool false), (5, .int .i64 0), (6, a6), (7, a7), (8, a8), (29, a29), (34, a34), (74, a74)] [.cells [.int .i64 k0, .int .i64 t0, .int .i64 m0, .sl fl (l.map Pl.av)], .cells [.int .i64 k1, .int .i64 t1, .int .i64 m1, .sl fl' (l'.map Pl.av)]] ⟨Q⟩ := by
  refine gLoop_inv (fun k T M => ∃ (i : Nat) (a6 a7 a8 a34 a74 : AV) (R : Lv), k = l.length - i ∧ i ≤ l.length ∧ M = .cells [.int .i64 k0, .int .i64 t0, .int .i64 m0, .sl fl (l.map Pl.av)] :: .cells [.int .i64 k1, .int .i64 t1, .int .i64 m1, .sl fl' (l'.map Pl.av)] :: R ∧
    T = [(0, a0), (1, a1), (2, .ptr H.length 0 0), (3, .ptr H.length 1 0), (4, .bool false), (5, .int .i64 i), (6, a6), (7, a7), (8, a8), (29, a29), (34, a34), (74, a74)] ∧
    sameL l l' = sameL (l.drop i) (l'.drop i)) l.length ?_ ?_
  · exact ⟨0, a6, a7, a8, a34, a74, [], by simp, by simp, rfl, rfl, by simp⟩
  rintro k T M ⟨i, a6, a7, a8, a34, a74, R, rfl, hi, rfl, rfl, hall⟩
  by_cases h1 : i < l.length
  · have h2 : i < l'.length := by omega
    have hw2 : IntKind.i64.wrap ((i : Int) + 1) = (i : Int) + 1 := wrap_i (by omega) (by omega)
    rw [sameL_at l l' i h1 h2] at hall
    have hm := fun H L => same8_c H L l[i].mb l'[i].mb (hs _ (List.getElem_mem h1))
    simp only [Mb.av] at hm
    cases hsm : l[i].mb.same l'[i].mb with
    | false =>
      simp only [hsm] at hm
      simp [f16l0, f16r4, f16r5, f16r6, f16r7, f16r8, f16r9, f16r10, Pl.av, h1, h2, hm]
      exact q2 (by rw [hall]; simp [Pl.same, hsm]) _ _ _ _ _ _ _
    | true =>
      simp only [hsm] at hm
      simp [f16l0, f16r4, f16r5, f16r6, f16r7, f16r8, f16r9, f16r10, Pl.av, h1, h2, hm]
      repeat' ((first | refine gG_ndec ?_ ?_ | refine gG_dec ?_ ?_ | refine gG_some ?_ ?_) <;> intro g <;> simp [g, hw2])
      all_goals first
        | exact q2 (by rw [hall]; simp [Pl.same, *]) _ _ _ _ _ _ _
        | exact gAgain_intro ⟨l.length - (i + 1), by omega, i + 1, _, _, _, _, _, _, rfl, by omega, rfl, rfl, by rw [hall]; simp [Pl.same, *]⟩
  · have h0 : i = l.length := by omega
    subst h0
    simp [f16l0, f16r4]
    exact q1 (by rw [hall, List.drop_eq_nil_of_le (Nat.le_refl _), List.drop_eq_nil_of_le (by omega)]; rfl) _ _ _ _ _ _ _

theorem same9_c (H : List Lv) (L : Lv) (a b : Dbs) (hlen : a.l.length ≤ 140737488355328) (hs : ∀ p ∈ a.l, p.mb.srcs.length ≤ 140737488355328) : pcall (callW G) H L 16 [.agg a.av, .agg b.av] = some (.bool (a.same b)) := by
  refine pcall_of_wp rfl rfl (by simp [Dbs.av]) (by simp [yieldF]) ?_
  obtain ⟨k0, t0, m0, fl, l⟩ := a
  obtain ⟨k1, t1, m1, fl', l'⟩ := b
  simp only at hlen hs
  by_cases h1 : k0 = k1
  · by_cases h2 : t0 = t1
    · by_cases h3 : m0 = m1
      · by_cases h4 : l.length = l'.length
        · simp [f16r0, f16r1, f16r2, f16r3, Dbs.av, h1, h2, h3, h4]
          refine same9_loop (L :: H) _ _ _ _ _ _ fl fl' l l' h4 hlen hs (fun hq a5 a6 a7 a8 a34 a74 R => ?_) (fun hq a5 a6 a7 a8 a34 a74 R => ?_)
          · simp [f16r11, Dbs.same, h1, h2, h3, h4, hq]
          · simp [Dbs.same, hq]
        · have h4' : ¬ (l.length : Int) = l'.length := by omega
          simp [f16r0, f16r1, f16r2, Dbs.av, h1, h2, h3, h4', h4, Dbs.same]
      · simp [f16r0, f16r1, f16r2, Dbs.av, h1, h2, h3, Dbs.same]
    · simp [f16r0, f16r1, f16r2, Dbs.av, h1, h2, Dbs.same]
  · simp [f16r0, f16r1, f16r2, Dbs.av, h1, Dbs.same]

end Go.Ev.S
