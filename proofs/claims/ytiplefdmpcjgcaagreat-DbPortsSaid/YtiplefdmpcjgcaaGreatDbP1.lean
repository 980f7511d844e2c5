/- Comparisons; binary searches. -/
import Derived.Test.YtiplefdmpcjgcaaGreatDbM1
namespace Go.Ev.S
open Go Go.Ev

def cmp3 (a b : Int) : Int := if a < b then -1 else if b < a then 1 else 0

theorem nan71_c (H : List Lv) (L : Lv) (a : Int) : pcall (callW G) H L 71 [.int .i64 a] = some (.bool false) := by
  refine pcall_of_wp rfl rfl (by simp) (by simp [yieldF]) ?_
  simp [f71r0, f71r1]

theorem nan72_c (H : List Lv) (L : Lv) (a : Int) : pcall (callW G) H L 72 [.int .u32 a] = some (.bool false) := by
  refine pcall_of_wp rfl rfl (by simp) (by simp [yieldF]) ?_
  simp [f72r0, f72r1]

theorem cmp57_c (H : List Lv) (L : Lv) (a b : Int) : pcall (callW G) H L 57 [.int .i64 a, .int .i64 b] = some (.int .i64 (cmp3 a b)) := by
  refine pcall_of_wp rfl rfl (by simp) (by simp [yieldF]) ?_
  by_cases h1 : a < b
  · simp [f57r0, f57r1, f57r2, f57r3, f57r7, f57r9, f57r10, nan71_c, h1, cmp3]
  · by_cases h2 : b < a
    · simp [f57r0, f57r1, f57r2, f57r3, f57r7, f57r9, f57r11, f57r12, nan71_c, h1, h2, cmp3]
    · simp [f57r0, f57r1, f57r2, f57r3, f57r7, f57r9, f57r11, f57r13, nan71_c, h1, h2, cmp3]

theorem cmp58_c (H : List Lv) (L : Lv) (a b : Int) : pcall (callW G) H L 58 [.int .u32 a, .int .u32 b] = some (.int .i64 (cmp3 a b)) := by
  refine pcall_of_wp rfl rfl (by simp) (by simp [yieldF]) ?_
  by_cases h1 : a < b
  · simp [f58r0, f58r1, f58r2, f58r3, f58r7, f58r9, f58r10, nan72_c, h1, cmp3]
  · by_cases h2 : b < a
    · simp [f58r0, f58r1, f58r2, f58r3, f58r7, f58r9, f58r11, f58r12, nan72_c, h1, h2, cmp3]
    · simp [f58r0, f58r1, f58r2, f58r3, f58r7, f58r9, f58r11, f58r13, nan72_c, h1, h2, cmp3]

theorem cmp68_c (H : List Lv) (L : Lv) (h : Hd) (a : Int) : pcall (callW G) H L 68 [.agg h.av, .int .u32 a] = some (.int .i64 (cmp3 h.a a)) := by
  refine pcall_of_wp rfl rfl (by simp [Hd.av]) (by simp [yieldF]) ?_
  simp [f68r0, f68r1, Hd.av, cmp58_c]

theorem or56_c (H : List Lv) (L : Lv) (m : SM) (x y : Int) : pcall (callW G) H L 56 [.sl m [[.int .i64 x], [.int .i64 y]]] = some (.int .i64 (if x = 0 then y else x)) := by
  refine pcall_of_wp rfl rfl (by simp) (by simp [yieldF]) ?_
  have w1 : IntKind.i64.wrap 1 = 1 := wrap_i (by omega) (by omega)
  have w2 : IntKind.i64.wrap 2 = 2 := wrap_i (by omega) (by omega)
  simp [f56r0, f56r1, f56r2]
  refine gLoop_step ?_
  by_cases h1 : x = 0
  · simp [f56l0, f56r3, f56r4, f56r5, f56r6, f56r7, h1, w1]
    refine gAgain_intro (gLoop_step ?_)
    by_cases h2 : y = 0
    · simp [f56l0, f56r3, f56r4, f56r5, f56r6, f56r7, h1, h2, w2]
      refine gAgain_intro (gLoop_step ?_)
      simp [f56l0, f56r3, f56r8, h1, h2]
    · simp [f56l0, f56r3, f56r4, f56r5, f56r6, f56r7, h1, h2]
  · simp [f56l0, f56r3, f56r4, f56r5, f56r6, f56r7, h1]

theorem order43_c (H : List Lv) (L : Lv) (p : Pl) (port g : Int) : pcall (callW G) H L 43 [.agg p.av, .agg [.int .i64 port, .int .u32 g]] = some (.int .i64 (if cmp3 p.port port = 0 then cmp3 p.mb.g g else cmp3 p.port port)) := by
  refine pcall_of_wp rfl rfl (by simp [Pl.av]) (by simp [yieldF]) ?_
  simp [f43r0, f43r1, Pl.av, cmp57_c, cmp58_c, or56_c]

/-- Where something stands, or would stand. -/
def posC {α : Type} (c : α → Int) (l : List α) : Nat := (l.takeWhile fun x => decide (c x < 0)).length

theorem posC_le {α : Type} (c : α → Int) (l : List α) : posC c l ≤ l.length := by
  unfold posC
  exact (List.takeWhile_prefix _).length_le

theorem pos_unique {α : Type} {c : α → Int} : ∀ {l : List α} {i : Nat}, i ≤ l.length → (∀ j (h : j < l.length), j < i → c l[j] < 0) → (∀ h : i < l.length, ¬ c l[i] < 0) → posC c l = i
  | [], i, h, _, _ => by simp at h; simp [posC, h]
  | a :: r, 0, _, _, h2 => by
    have := h2 (by simp)
    simp at this
    simp [posC, this]
  | a :: r, i + 1, h, h1, h2 => by
    have h0 := h1 0 (by simp) (by omega)
    simp at h0
    have := pos_unique (c := c) (l := r) (i := i) (by simpa using h) (fun j hj hji => by
      have := h1 (j + 1) (by simpa using hj) (by omega)
      rwa [List.getElem_cons_succ] at this) (fun hi => by
      have := h2 (by simpa using hi)
      rwa [List.getElem_cons_succ] at this)
    simp only [posC, List.takeWhile_cons, h0, decide_true, if_true, List.length_cons]
    simp only [posC] at this
    omega

/-- Is a row so that what is less comes first? -/
def Mono {α : Type} (c : α → Int) (l : List α) : Prop := ∀ i j (hi : i < l.length) (hj : j < l.length), i < j → c l[j] < 0 → c l[i] < 0

def cmpH (a : Int) (h : Hd) : Int := cmp3 h.a a
def posH (l : List Hd) (a : Int) : Nat := posC (cmpH a) l
def hasH (l : List Hd) (a : Int) : Bool := match l[posH l a]? with
  | some h => decide (cmpH a h = 0)
  | none => false

theorem bs67_loop (H : List Lv) (m : SM) (l : List Hd) (a : Int) (hlen : l.length ≤ 140737488355328) (hmono : Mono (cmpH a) l) {a6 a7 a11 a17 a31 : AV} {L : Lv} {Q : Ex → Tm → Lv → Prop}
    (q : ∀ a10 a11 a17 a31, Q (.exit 0) [(0, .sl m (l.map Hd.av)), (1, .int .u32 a), (2, .fn 68 []), (6, a6), (7, a7), (8, .int .i64 l.length), (9, .int .i64 (posH l a)), (10, a10), (11, a11), (17, a17), (31, a31)] L) :
    @gLoop G H f67l0 [(0, .sl m (l.map Hd.av)), (1, .int .u32 a), (2, .fn 68 []), (6, a6), (7, a7), (8, .int .i64 l.length), (9, .int .i64 0), (10, .int .i64 l.length), (11, a11), (17, a17), (31, a31)] L ⟨Q⟩ := by
  refine gLoop_inv (fun k T M => ∃ (lo hi : Nat) (a11 a17 a31 : AV), k = hi - lo ∧ lo ≤ hi ∧ hi ≤ l.length ∧ M = L ∧
    T = [(0, .sl m (l.map Hd.av)), (1, .int .u32 a), (2, .fn 68 []), (6, a6), (7, a7), (8, .int .i64 l.length), (9, .int .i64 lo), (10, .int .i64 hi), (11, a11), (17, a17), (31, a31)] ∧
    (∀ j (h : j < l.length), j < lo → cmpH a l[j] < 0) ∧ (∀ j (h : j < l.length), hi ≤ j → ¬ cmpH a l[j] < 0)) l.length ?_ ?_
  · exact ⟨0, l.length, a11, a17, a31, by simp, by simp, by simp, rfl, rfl, by simp, fun j h1 h2 => by omega⟩
  rintro k T M ⟨lo, hi, a11, a17, a31, rfl, hlh, hhl, rfl, rfl, hl, hh⟩
  by_cases h1 : lo < hi
  · obtain ⟨mid, hmid⟩ : ∃ mid, mid = (lo + hi) / 2 := ⟨_, rfl⟩
    have hm : mid < l.length := by omega
    have w1 : IntKind.i64.wrap ((lo : Int) + hi) = (lo : Int) + hi := wrap_i (by omega) (by omega)
    have w2 : IntKind.i64.wrap ((IntKind.u64.wrap ((lo : Int) + hi)).fdiv (2 ^ min 1 IntKind.u64.bits)) = mid := by
      rw [IntWalk.u64_in _ (by omega)]
      have : ((lo : Int) + hi).fdiv (2 ^ min 1 IntKind.u64.bits) = mid := by
        show ((lo : Int) + hi).fdiv 2 = mid
        rw [Int.fdiv_eq_ediv_of_nonneg _ (by omega)]
        omega
      rw [this]
      exact wrap_i (by omega) (by omega)
    have w3 : IntKind.i64.wrap ((mid : Int) + 1) = (mid : Int) + 1 := wrap_i (by omega) (by omega)
    have hc := fun H L => cmp68_c H L l[mid] a
    simp only [Hd.av] at hc
    by_cases hlt : cmpH a l[mid] < 0
    · have hlt' : cmp3 l[mid].a a < 0 := hlt
      simp [f67l0, f67r3, f67r4, f67r5, f67r6, f67r7, Hd.av, h1, w1, w2, w3, hm, hc, hlt', shI]
      exact gAgain_intro ⟨hi - (mid + 1), by omega, mid + 1, hi, _, _, _, rfl, by omega, hhl, rfl, rfl, fun j hj hjm => by
        by_cases e : j = mid
        · subst e; exact hlt
        · exact hmono j mid hj hm (by omega) hlt, hh⟩
    · have hlt' : ¬ cmp3 l[mid].a a < 0 := hlt
      simp [f67l0, f67r3, f67r4, f67r5, f67r6, f67r7, Hd.av, h1, w1, w2, w3, hm, hc, hlt', shI]
      exact gAgain_intro ⟨mid - lo, by omega, lo, mid, _, _, _, rfl, by omega, by omega, rfl, rfl, hl, fun j hj hjm => by
        by_cases e : mid = j
        · subst e; exact hlt
        · exact fun hx => hlt (hmono mid j hm hj (by omega) hx)⟩
  · have : lo = hi := by omega
    subst this
    simp [f67l0, f67r3]
    have hp : posH l a = lo := pos_unique hhl hl (fun h => hh lo h (Nat.le_refl _))
    rw [← hp]
    exact q _ _ _ _

theorem bs67_c (H : List Lv) (L : Lv) (m : SM) (l : List Hd) (a : Int) (hlen : l.length ≤ 140737488355328) (hmono : Mono (cmpH a) l) :
    pcall (callW G) H L 67 [.sl m (l.map Hd.av), .int .u32 a, .fn 68 []] = some (.tup [.int .i64 (posH l a), .bool (hasH l a)]) := by
  refine pcall_of_wp rfl rfl (by simp) (by simp [yieldF]) ?_
  simp [f67r0, f67r1, f67r2]
  refine bs67_loop (L :: H) m l a hlen hmono (fun a10 a11 a17 a31 => ?_)
  by_cases h1 : posH l a < l.length
  · have hc := fun H L => cmp68_c H L l[posH l a] a
    simp only [Hd.av] at hc
    simp [f67r8, Hd.av, h1, hc, hasH, cmpH]
    exact decide_eq_decide.2 Iff.rfl
  · simp [f67r8, h1, hasH]

theorem place53_c (H : List Lv) (L : Lv) (m : SM) (l : List Hd) (a : Int) (hlen : l.length ≤ 140737488355328) (hmono : Mono (cmpH a) l) :
    pcall (callW G) H L 53 [.sl m (l.map Hd.av), .int .u32 a] = some (.tup [.int .i64 (posH l a), .bool (hasH l a)]) := by
  refine pcall_of_wp rfl rfl (by simp) (by simp [yieldF]) ?_
  have hb := fun H L => bs67_c H L m l a hlen hmono
  simp [f53r0, f53r1, hb]

end Go.Ev.S
