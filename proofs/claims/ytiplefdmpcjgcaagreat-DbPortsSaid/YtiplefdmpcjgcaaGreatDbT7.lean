import Derived.Test.YtiplefdmpcjgcaaGreatDbT6
namespace Go.Ev.S
open Go Go.Ev

/-- Is a place right, behind another one? -/
def okP (q : Option Pl) (p : Pl) : Bool :=
  p.mb.right && p.mb.some && decide (0 ≤ p.port) && decide (p.port ≤ 63) && decide (0 ≤ p.v1) && decide (p.v1 ≤ 1000000) && decide (0 ≤ p.v2) && decide (p.v2 ≤ 1000000) &&
  (match q with | some q => !(decide (p.port < q.port) || decide (q.port = p.port) && decide (p.mb.g ≤ q.mb.g)) | none => true)

def allP : Option Pl → List Pl → Bool
  | _, [] => true
  | q, p :: r => okP q p && allP (some p) r

def Dbs.right (d : Dbs) : Bool :=
  (decide (1 ≤ d.last) && decide (d.last ≤ d.keep) && decide (d.keep ≤ 1000000)) && decide (0 ≤ d.limit) && decide (d.limit ≤ 256) && decide ((d.l.length : Int) ≤ d.limit) && allP none d.l

theorem allP_at (l : List Pl) (i : Nat) (h : i < l.length) : allP (prevAt l i) (l.drop i) = (okP (prevAt l i) l[i] && allP (prevAt l (i + 1)) (l.drop (i + 1))) := by
  rw [List.drop_eq_getElem_cons h]
  simp [allP, prevAt, h]

theorem right9_loop (H : List Lv) (keep last limit : Int) (fl : SM) (l : List Pl) (hlen : l.length ≤ 256) {a0 a3 a5 a6 a7 a30 a35 a83 a85 a112 : AV} {Q : Ex → Tm → Lv → Prop}
    (q1 : allP none l = true → ∀ a4 a5 a6 a7 a35 a83 a85 a112 R, Q (.exit 0) [(0, a0), (1, .ptr H.length 0 0), (2, .bool false), (3, a3), (4, a4), (5, a5), (6, a6), (7, a7), (30, a30), (35, a35), (83, a83), (85, a85), (112, a112)] (.cells [.int .i64 keep, .int .i64 last, .int .i64 limit, .sl fl (l.map Pl.av)] :: R))
    (q2 : allP none l = false → ∀ a4 a5 a6 a7 a35 a83 a85 a112 R, Q .ret [(0, a0), (1, .ptr H.length 0 0), (2, .bool false), (3, a3), (4, a4), (5, a5), (6, a6), (7, a7), (30, a30), (35, a35), (83, a83), (85, a85), (112, a112)] (.cells [.int .i64 keep, .int .i64 last, .int .i64 limit, .sl fl (l.map Pl.av)] :: R)) :
    @gLoop G H f11l0 [(0, a0), (1, .ptr H.length 0 0), (2, .bool false), (3, a3), (4, .int .i64 0), (5, a5), (6, a6), (7, a7), (30, a30), (35, a35), (83, a83), (85, a85), (112, a112)] [.cells [.int .i64 keep, .int .i64 last, .int .i64 limit, .sl fl (l.map Pl.av)]] ⟨Q⟩ := by
  refine gLoop_inv (fun k T M => ∃ (i : Nat) (a5 a6 a7 a35 a83 a85 a112 : AV) (R : Lv), k = l.length - i ∧ i ≤ l.length ∧ M = .cells [.int .i64 keep, .int .i64 last, .int .i64 limit, .sl fl (l.map Pl.av)] :: R ∧
    T = [(0, a0), (1, .ptr H.length 0 0), (2, .bool false), (3, a3), (4, .int .i64 i), (5, a5), (6, a6), (7, a7), (30, a30), (35, a35), (83, a83), (85, a85), (112, a112)] ∧
    allP none l = allP (prevAt l i) (l.drop i)) l.length ?_ ?_
  · exact ⟨0, a5, a6, a7, a35, a83, a85, a112, [], by simp, by simp, rfl, rfl, by simp [prevAt]⟩
  rintro k T M ⟨i, a5, a6, a7, a35, a83, a85, a112, R, rfl, hi, rfl, rfl, hall⟩
  by_cases h1 : i < l.length
  · have hw2 : IntKind.i64.wrap ((i : Int) + 1) = (i : Int) + 1 := wrap_i (by omega) (by omega)
    rw [allP_at l i h1] at hall
    have hr := fun H L => right8_c H L l[i].mb
    have hs := fun H L => some_c H L l[i].mb
    simp only [Mb.av] at hr hs
    cases hrm : l[i].mb.right with
    | false =>
      simp only [hrm] at hr
      simp [f11l0, f11r5, f11r6, f11r7, f11r8, f11r9, Pl.av, h1, hr]
      exact q2 (by rw [hall]; simp [okP, hrm]) _ _ _ _ _ _ _ _ _
    | true =>
      simp only [hrm] at hr
      cases hsm : l[i].mb.some with
      | false =>
        simp only [Mb.some] at hsm
        simp only [hsm] at hs
        simp [f11l0, f11r5, f11r6, f11r7, f11r8, f11r9, Pl.av, h1, hr, hs]
        exact q2 (by rw [hall]; simp only [okP, Mb.some, hsm]; simp) _ _ _ _ _ _ _ _ _
      | true =>
        simp only [Mb.some] at hsm
        simp only [hsm] at hs
        have okp : ∀ q, okP q l[i] = (decide (0 ≤ l[i].port) && decide (l[i].port ≤ 63) && decide (0 ≤ l[i].v1) && decide (l[i].v1 ≤ 1000000) && decide (0 ≤ l[i].v2) && decide (l[i].v2 ≤ 1000000) &&
          (match q with | some q => !(decide (l[i].port < q.port) || decide (q.port = l[i].port) && decide (l[i].mb.g ≤ q.mb.g)) | none => true)) := by
          intro q
          simp only [okP, Mb.some, hrm, hsm, Bool.true_and]
        rw [okp] at hall
        by_cases h0 : 0 < i
        · obtain ⟨p, hp⟩ : ∃ p, i = p + 1 := ⟨i - 1, by omega⟩
          have hw3 : IntKind.i64.wrap ((i : Int) - 1) = (p : Int) := by rw [wrap_i (by omega) (by omega)]; omega
          have h2 : p < l.length := by omega
          have hpr : prevAt l i = some l[p] := by simp [prevAt, h2, hp]
          rw [hpr] at hall
          simp [f11l0, f11r5, f11r6, f11r7, f11r8, f11r9, f11r10, f11r11, f11r12, f11r13, f11r14, Pl.av, h1, hr, hs]
          repeat' ((first | refine gG_ndec ?_ ?_ | refine gG_dec ?_ ?_ | refine gG_some ?_ ?_) <;> intro g <;> simp [g, h0, h1, h2, hw2, hw3, Pl.av])
          all_goals first
            | exact q2 (by rw [hall]; simp; omega) _ _ _ _ _ _ _ _ _
            | exact gAgain_intro ⟨l.length - (i + 1), by omega, i + 1, _, _, _, _, _, _, _, _, rfl, by omega, rfl, rfl, by rw [hall]; simp; omega⟩
        · have h00 : i = 0 := by omega
          subst h00
          have hpr : prevAt l 0 = none := by simp [prevAt]
          rw [hpr] at hall
          simp [f11l0, f11r5, f11r6, f11r7, f11r8, f11r9, f11r10, f11r11, f11r12, f11r13, f11r14, Pl.av, h1, hr, hs]
          repeat' ((first | refine gG_ndec ?_ ?_ | refine gG_dec ?_ ?_ | refine gG_some ?_ ?_) <;> intro g <;> simp [g, h1, wrap_i])
          all_goals first
            | exact q2 (by rw [hall]; simp; omega) _ _ _ _ _ _ _ _ _
            | exact gAgain_intro ⟨l.length - (0 + 1), by omega, 0 + 1, _, _, _, _, _, _, _, _, rfl, by omega, rfl, rfl, by rw [hall]; simp; omega⟩
  · have h0 : i = l.length := by omega
    subst h0
    simp [f11l0, f11r5]
    exact q1 (by rw [hall, List.drop_eq_nil_of_le (Nat.le_refl _)]; rfl) _ _ _ _ _ _ _ _ _

theorem right9_c (H : List Lv) (L : Lv) (d : Dbs) : pcall (callW G) H L 11 [.agg d.av] = some (.bool d.right) := by
  refine pcall_of_wp rfl rfl (by simp [Dbs.av]) (by simp [yieldF]) ?_
  have hm := fun H L => may_c H L d.keep d.last
  unfold Dbs.right
  obtain ⟨keep, last, limit, fl, l⟩ := d
  simp only at hm
  cases ha : (decide (1 ≤ last) && decide (last ≤ keep) && decide (keep ≤ 1000000)) with
  | false =>
    simp only [ha] at hm
    simp [f11r0, f11r1, f11r2, f11r3, Dbs.av, hm]
  | true =>
    simp only [ha] at hm
    clear ha
    by_cases h1 : limit < 0
    · have : ¬ 0 ≤ limit := by omega
      simp [f11r0, f11r1, f11r2, f11r3, Dbs.av, hm, h1, this]
    · by_cases h2 : 256 < limit
      · have : ¬ limit ≤ 256 := by omega
        simp [f11r0, f11r1, f11r2, f11r3, Dbs.av, hm, h1, h2, this]
      · by_cases h3 : limit < (l.length : Int)
        · have : ¬ (l.length : Int) ≤ limit := by omega
          simp [f11r0, f11r1, f11r2, f11r3, Dbs.av, hm, h1, h2, h3, this]
        · have e1 : 0 ≤ limit := by omega
          have e2 : limit ≤ 256 := by omega
          have e3 : (l.length : Int) ≤ limit := by omega
          simp [f11r0, f11r1, f11r2, f11r4, Dbs.av, hm, h1, h2, h3]
          refine right9_loop (L :: H) keep last limit fl l (by omega) (fun hq a4 a5 a6 a7 a35 a83 a85 a112 R => ?_) (fun hq a4 a5 a6 a7 a35 a83 a85 a112 R => ?_)
          · simp [f11r15, hq, e1, e2, e3]
          · simp [hq]

end Go.Ev.S
