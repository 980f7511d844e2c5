import Derived.Test.YtiplefdmpcjgcaaGreatDbD
import Derived.Test.YtiplefdmpcjgcaaGreatEvG
namespace Go.Ev.S
open Go Go.Ev

theorem may_c (H : List Lv) (L : Lv) (keep last : Int) : pcall (callW G) H L 24 [.agg [.int .i64 keep, .int .i64 last]] = some (.bool (decide (1 ≤ last) && decide (last ≤ keep) && decide (keep ≤ 1000000))) := by
  refine pcall_of_wp rfl rfl (by simp) (by simp [yieldF]) ?_
  simp [f24r0, f24r1]
  refine gG_dec ?_ ?_ <;> intro h1 <;> simp [h1]
  refine gG_dec ?_ ?_ <;> intro h2 <;> simp [*]

theorem some_c (H : List Lv) (L : Lv) (m : Mb) : pcall (callW G) H L 25 [.agg m.av] = some (.bool (m.ex || decide (0 < m.srcs.length))) := by
  refine pcall_of_wp rfl rfl (by simp [Mb.av]) (by simp [yieldF]) ?_
  simp [f25r0, f25r1, Mb.av]
  cases h : m.ex <;> simp

theorem msome_c (H : List Lv) (L : Lv) (m : Mb) : pcall (callW G) H L 39 [.agg m.av] = some (.bool (m.ex || decide (0 < m.srcs.length))) := by
  refine pcall_of_wp rfl rfl (by simp [Mb.av]) (by simp [yieldF]) ?_
  simp [f39r0, f39r1, Mb.av]
  cases h : m.ex <;> simp

theorem asked_c (H : List Lv) (L : Lv) (g : Int) : pcall (callW G) H L 26 [.int .u32 g] = some (.bool (decide (3758096640 ≤ g) && decide (g ≤ 4026531839))) := by
  refine pcall_of_wp rfl rfl (by simp) (by simp [yieldF]) ?_
  simp [f26r0, f26r1]
  refine gG_dec ?_ ?_ <;> intro h1 <;> simp [h1]

def prevAt {α : Type} (l : List α) (i : Nat) : Option α := if i = 0 then none else l[i - 1]?

/-- Is a source right, behind another one? -/
def okH (ex : Bool) (p : Option Hd) (h : Hd) : Bool :=
  decide (0 ≤ h.left) && decide (h.left ≤ 1000000) && (decide (h.left ≠ 0) || ex) && (match p with | some q => decide (q.a < h.a) | none => true)

def allH (ex : Bool) : Option Hd → List Hd → Bool
  | _, [] => true
  | p, h :: r => okH ex p h && allH ex (some h) r

def Mb.right (m : Mb) : Bool :=
  (decide (3758096640 ≤ m.g) && decide (m.g ≤ 4026531839)) && decide (m.srcs.length ≤ 64) &&
  (if m.ex then decide (1 ≤ m.left) && decide (m.left ≤ 1000000) else decide (m.left = 0)) && allH m.ex none m.srcs

theorem allH_at (ex : Bool) (l : List Hd) (i : Nat) (h : i < l.length) : allH ex (prevAt l i) (l.drop i) = (okH ex (prevAt l i) l[i] && allH ex (prevAt l (i + 1)) (l.drop (i + 1))) := by
  rw [List.drop_eq_getElem_cons h]
  simp [allH, prevAt, h]

theorem right8_loop (H : List Lv) (g left : Int) (ex : Bool) (fl : SM) (srcs : List Hd) (h64 : srcs.length ≤ 64) {a0 a3 a5 a16 a38 a43 a86 : AV} {Q : Ex → Tm → Lv → Prop}
    (q1 : allH ex none srcs = true → ∀ a4 a5 a43 a86, Q (.exit 0) [(0, a0), (1, .ptr H.length 0 0), (2, .bool false), (3, a3), (4, a4), (5, a5), (16, a16), (38, a38), (43, a43), (86, a86)] [.cells [.int .u32 g, .bool ex, .int .i64 left, .sl fl (srcs.map Hd.av)]])
    (q2 : allH ex none srcs = false → ∀ a4 a5 a43 a86, Q .ret [(0, a0), (1, .ptr H.length 0 0), (2, .bool false), (3, a3), (4, a4), (5, a5), (16, a16), (38, a38), (43, a43), (86, a86)] [.cells [.int .u32 g, .bool ex, .int .i64 left, .sl fl (srcs.map Hd.av)]]) :
    @gLoop G H f19l0 [(0, a0), (1, .ptr H.length 0 0), (2, .bool false), (3, a3), (4, .int .i64 0), (5, a5), (16, a16), (38, a38), (43, a43), (86, a86)] [.cells [.int .u32 g, .bool ex, .int .i64 left, .sl fl (srcs.map Hd.av)]] ⟨Q⟩ := by
  refine gLoop_inv (fun k T M => ∃ (i : Nat) (a5 a43 a86 : AV), k = srcs.length - i ∧ i ≤ srcs.length ∧ M = [.cells [.int .u32 g, .bool ex, .int .i64 left, .sl fl (srcs.map Hd.av)]] ∧
    T = [(0, a0), (1, .ptr H.length 0 0), (2, .bool false), (3, a3), (4, .int .i64 i), (5, a5), (16, a16), (38, a38), (43, a43), (86, a86)] ∧
    allH ex none srcs = allH ex (prevAt srcs i) (srcs.drop i)) srcs.length ?_ ?_
  · exact ⟨0, a5, a43, a86, by simp, by simp, rfl, rfl, by simp [prevAt]⟩
  rintro k T M ⟨i, a5, a43, a86, rfl, hi, rfl, rfl, hall⟩
  by_cases h1 : i < srcs.length
  · rw [allH_at _ _ _ h1] at hall
    have hw2 : IntKind.i64.wrap ((i : Int) + 1) = (i : Int) + 1 := wrap_i (by omega) (by omega)
    by_cases h0 : 0 < i
    · obtain ⟨p, hp⟩ : ∃ p, i = p + 1 := ⟨i - 1, by omega⟩
      have hw3 : IntKind.i64.wrap ((i : Int) - 1) = (p : Int) := by rw [wrap_i (by omega) (by omega)]; omega
      have h2 : p < srcs.length := by omega
      have hpr : prevAt srcs i = some srcs[p] := by simp [prevAt, h2, hp]
      rw [hpr] at hall
      cases ex <;> simp [f19l0, f19r7, f19r8, f19r9, f19r10, f19r11, Hd.av, h1]
      all_goals repeat' ((first | refine gG_ndec ?_ ?_ | refine gG_dec ?_ ?_ | refine gG_some ?_ ?_) <;> intro g <;> simp [g, h0, h1, h2, hw2, hw3, Hd.av])
      all_goals first
        | exact q2 (by rw [hall]; simp [okH]; omega) _ _ _ _
        | (refine gAgain_intro ⟨srcs.length - (i + 1), by omega, i + 1, _, _, _, rfl, by omega, rfl, rfl, ?_⟩
           rw [hall]; simp [okH]; omega)
    · have h00 : i = 0 := by omega
      subst h00
      have hpr : prevAt srcs 0 = none := by simp [prevAt]
      rw [hpr] at hall
      cases ex <;> simp [f19l0, f19r7, f19r8, f19r9, f19r10, f19r11, Hd.av, h1]
      all_goals repeat' ((first | refine gG_ndec ?_ ?_ | refine gG_dec ?_ ?_ | refine gG_some ?_ ?_) <;> intro g <;> simp [g, h1, wrap_i, Hd.av])
      all_goals first
        | exact q2 (by rw [hall]; simp [okH]; omega) _ _ _ _
        | (refine gAgain_intro ⟨srcs.length - 1, by omega, 1, _, _, _, rfl, by omega, rfl, rfl, ?_⟩
           rw [hall]; simp [okH]; omega)
  · have h0 : i = srcs.length := by omega
    subst h0
    simp [f19l0, f19r7, Mb.av]
    exact q1 (by rw [hall]; simp [allH]) _ _ _ _

theorem right8_c (H : List Lv) (L : Lv) (m : Mb) : pcall (callW G) H L 19 [.agg m.av] = some (.bool m.right) := by
  refine pcall_of_wp rfl rfl (by simp [Mb.av]) (by simp [yieldF]) ?_
  have hask := fun H L => asked_c H L m.g
  unfold Mb.right
  obtain ⟨g, ex, left, fl, srcs⟩ := m
  simp only at hask
  cases ha : (decide (3758096640 ≤ g) && decide (g ≤ 4026531839)) with
  | false =>
    simp only [ha] at hask
    simp [f19r0, f19r1, f19r2, f19r3, Mb.av, hask]
  | true =>
    simp only [ha] at hask
    clear ha
    by_cases h64 : srcs.length ≤ 64
    · have h64' : ¬ (64 : Int) < srcs.length := by omega
      cases ex with
      | true =>
        simp [f19r0, f19r1, f19r2, f19r3, f19r4, f19r5, f19r6, Mb.av, hask, h64, h64']
        repeat' ((first | refine gG_ndec ?_ ?_ | refine gG_dec ?_ ?_ | refine gG_some ?_ ?_) <;> intro g <;> simp [g])
        all_goals first
          | (intros; omega)
          | (refine right8_loop (L :: H) _ left true fl srcs h64 (fun hq a4 a5 a43 a86 => ?_) (fun hq a4 a5 a43 a86 => ?_)
             · simp [f19r12, hq]; omega
             · simp [hq])
          | trace_state
      | false =>
        simp [f19r0, f19r1, f19r2, f19r3, f19r4, f19r5, f19r6, Mb.av, hask, h64, h64']
        by_cases h1 : left = 0
        · simp [h1]
          refine right8_loop (L :: H) g 0 false fl srcs h64 (fun hq a4 a5 a43 a86 => ?_) (fun hq a4 a5 a43 a86 => ?_)
          · simp [f19r12, hq, h1, h64]
          · simp [hq]
        · simp [h1]
    · have h64' : (64 : Int) < srcs.length := by omega
      simp [f19r0, f19r1, f19r2, f19r3, Mb.av, hask, h64, h64']

end Go.Ev.S
