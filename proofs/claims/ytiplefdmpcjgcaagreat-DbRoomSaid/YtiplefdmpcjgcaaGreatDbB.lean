/- Order of places; searches. -/
import Derived.Test.YtiplefdmpcjgcaaGreatDbA

/- Comparisons; binary searches. -/
namespace Go.Ev.S
open Go Go.Ev

def cmp3 (a b : Int) : Int := if a < b then -1 else if b < a then 1 else 0

theorem nan71_c (H : List Lv) (L : Lv) (a : Int) : pcall (callW G) H L 71 [.int .i64 a] = some (.bool false) := by
  refine pcall_of_wp rfl rfl (by simp) (by simp [yieldF]) ?_
  simp [f71r0, f71r1]

theorem nan72_c (H : List Lv) (L : Lv) (a : Int) : pcall (callW G) H L 72 [.int .u32 a] = some (.bool false) := by
  refine pcall_of_wp rfl rfl (by simp) (by simp [yieldF]) ?_
  simp [f72r0, f72r1]

theorem cmp57_c (H : List Lv) (L : Lv) (a b : Int) : pcall (callW G) H L 57 [.int .i64 a, .int .i64 b] = some (.int .i64 (cmp3 a b)) := by
  refine pcall_of_wp rfl rfl (by simp) (by simp [yieldF]) ?_
  by_cases h1 : a < b
  · simp [f57r0, f57r1, f57r2, f57r3, f57r7, f57r9, f57r10, nan71_c, h1, cmp3]
  · by_cases h2 : b < a
    · simp [f57r0, f57r1, f57r2, f57r3, f57r7, f57r9, f57r11, f57r12, nan71_c, h1, h2, cmp3]
    · simp [f57r0, f57r1, f57r2, f57r3, f57r7, f57r9, f57r11, f57r13, nan71_c, h1, h2, cmp3]

theorem cmp58_c (H : List Lv) (L : Lv) (a b : Int) : pcall (callW G) H L 58 [.int .u32 a, .int .u32 b] = some (.int .i64 (cmp3 a b)) := by
  refine pcall_of_wp rfl rfl (by simp) (by simp [yieldF]) ?_
  by_cases h1 : a < b
  · simp [f58r0, f58r1, f58r2, f58r3, f58r7, f58r9, f58r10, nan72_c, h1, cmp3]
  · by_cases h2 : b < a
    · simp [f58r0, f58r1, f58r2, f58r3, f58r7, f58r9, f58r11, f58r12, nan72_c, h1, h2, cmp3]
    · simp [f58r0, f58r1, f58r2, f58r3, f58r7, f58r9, f58r11, f58r13, nan72_c, h1, h2, cmp3]

theorem cmp68_c (H : List Lv) (L : Lv) (h : Hd) (a : Int) : pcall (callW G) H L 68 [.agg h.av, .int .u32 a] = some (.int .i64 (cmp3 h.a a)) := by
  refine pcall_of_wp rfl rfl (by simp [Hd.av]) (by simp [yieldF]) ?_
  simp [f68r0, f68r1, Hd.av, cmp58_c]

theorem or56_c (H : List Lv) (L : Lv) (m : SM) (x y : Int) : pcall (callW G) H L 56 [.sl m [[.int .i64 x], [.int .i64 y]]] = some (.int .i64 (if x = 0 then y else x)) := by
  refine pcall_of_wp rfl rfl (by simp) (by simp [yieldF]) ?_
  have w1 : IntKind.i64.wrap 1 = 1 := wrap_i (by omega) (by omega)
  have w2 : IntKind.i64.wrap 2 = 2 := wrap_i (by omega) (by omega)
  simp [f56r0, f56r1, f56r2]
  refine gLoop_step ?_
  by_cases h1 : x = 0
  · simp [f56l0, f56r3, f56r4, f56r5, f56r6, f56r7, h1, w1]
    refine gAgain_intro (gLoop_step ?_)
    by_cases h2 : y = 0
    · simp [f56l0, f56r3, f56r4, f56r5, f56r6, f56r7, h1, h2, w2]
      refine gAgain_intro (gLoop_step ?_)
      simp [f56l0, f56r3, f56r8, h1, h2]
    · simp [f56l0, f56r3, f56r4, f56r5, f56r6, f56r7, h1, h2]
  · simp [f56l0, f56r3, f56r4, f56r5, f56r6, f56r7, h1]

theorem order43_c (H : List Lv) (L : Lv) (p : Pl) (port g : Int) : pcall (callW G) H L 43 [.agg p.av, .agg [.int .i64 port, .int .u32 g]] = some (.int .i64 (if cmp3 p.port port = 0 then cmp3 p.mb.g g else cmp3 p.port port)) := by
  refine pcall_of_wp rfl rfl (by simp [Pl.av]) (by simp [yieldF]) ?_
  simp [f43r0, f43r1, Pl.av, cmp57_c, cmp58_c, or56_c, borrow]

/-- Where something stands, or would stand. -/
def posC {α : Type} (c : α → Int) (l : List α) : Nat := (l.takeWhile fun x => decide (c x < 0)).length

theorem posC_le {α : Type} (c : α → Int) (l : List α) : posC c l ≤ l.length := by
  unfold posC
  exact (List.takeWhile_prefix _).length_le

theorem pos_unique {α : Type} {c : α → Int} : ∀ {l : List α} {i : Nat}, i ≤ l.length → (∀ j (h : j < l.length), j < i → c l[j] < 0) → (∀ h : i < l.length, ¬ c l[i] < 0) → posC c l = i
  | [], i, h, _, _ => by simp at h; simp [posC, h]
  | a :: r, 0, _, _, h2 => by
    have := h2 (by simp)
    simp at this
    simp [posC, this]
  | a :: r, i + 1, h, h1, h2 => by
    have h0 := h1 0 (by simp) (by omega)
    simp at h0
    have := pos_unique (c := c) (l := r) (i := i) (by simpa using h) (fun j hj hji => by
      have := h1 (j + 1) (by simpa using hj) (by omega)
      rwa [List.getElem_cons_succ] at this) (fun hi => by
      have := h2 (by simpa using hi)
      rwa [List.getElem_cons_succ] at this)
    simp only [posC, List.takeWhile_cons, h0, decide_true, if_true, List.length_cons]
    simp only [posC] at this
    omega

/-- Is a row so that what is less comes first? -/
def Mono {α : Type} (c : α → Int) (l : List α) : Prop := ∀ i j (hi : i < l.length) (hj : j < l.length), i < j → c l[j] < 0 → c l[i] < 0

def cmpH (a : Int) (h : Hd) : Int := cmp3 h.a a
def posH (l : List Hd) (a : Int) : Nat := posC (cmpH a) l
def hasH (l : List Hd) (a : Int) : Bool := match l[posH l a]? with
  | some h => decide (cmpH a h = 0)
  | none => false

theorem bs67_loop (H : List Lv) (m : SM) (l : List Hd) (a : Int) (hlen : l.length ≤ 140737488355328) (hmono : Mono (cmpH a) l) {a6 a7 a11 a17 a31 : AV} {L : Lv} {Q : Ex → Tm → Lv → Prop}
    (q : ∀ a10 a11 a17 a31, Q (.exit 0) [(0, .sl m (l.map Hd.av)), (1, .int .u32 a), (2, .fn 68 []), (6, a6), (7, a7), (8, .int .i64 l.length), (9, .int .i64 (posH l a)), (10, a10), (11, a11), (17, a17), (31, a31)] L) :
    @gLoop G H f67l0 [(0, .sl m (l.map Hd.av)), (1, .int .u32 a), (2, .fn 68 []), (6, a6), (7, a7), (8, .int .i64 l.length), (9, .int .i64 0), (10, .int .i64 l.length), (11, a11), (17, a17), (31, a31)] L ⟨Q⟩ := by
  refine gLoop_inv (fun k T M => ∃ (lo hi : Nat) (a11 a17 a31 : AV), k = hi - lo ∧ lo ≤ hi ∧ hi ≤ l.length ∧ M = L ∧
    T = [(0, .sl m (l.map Hd.av)), (1, .int .u32 a), (2, .fn 68 []), (6, a6), (7, a7), (8, .int .i64 l.length), (9, .int .i64 lo), (10, .int .i64 hi), (11, a11), (17, a17), (31, a31)] ∧
    (∀ j (h : j < l.length), j < lo → cmpH a l[j] < 0) ∧ (∀ j (h : j < l.length), hi ≤ j → ¬ cmpH a l[j] < 0)) l.length ?_ ?_
  · exact ⟨0, l.length, a11, a17, a31, by simp, by simp, by simp, rfl, rfl, by simp, fun j h1 h2 => by omega⟩
  rintro k T M ⟨lo, hi, a11, a17, a31, rfl, hlh, hhl, rfl, rfl, hl, hh⟩
  by_cases h1 : lo < hi
  · obtain ⟨mid, hmid⟩ : ∃ mid, mid = (lo + hi) / 2 := ⟨_, rfl⟩
    have hm : mid < l.length := by omega
    have w1 : IntKind.i64.wrap ((lo : Int) + hi) = (lo : Int) + hi := wrap_i (by omega) (by omega)
    have w2 : IntKind.i64.wrap ((IntKind.u64.wrap ((lo : Int) + hi)).fdiv (2 ^ min 1 IntKind.u64.bits)) = mid := by
      rw [IntWalk.u64_in _ (by omega)]
      have : ((lo : Int) + hi).fdiv (2 ^ min 1 IntKind.u64.bits) = mid := by
        show ((lo : Int) + hi).fdiv 2 = mid
        rw [Int.fdiv_eq_ediv_of_nonneg _ (by omega)]
        omega
      rw [this]
      exact wrap_i (by omega) (by omega)
    have w3 : IntKind.i64.wrap ((mid : Int) + 1) = (mid : Int) + 1 := wrap_i (by omega) (by omega)
    have hc := fun H L => cmp68_c H L l[mid] a
    simp only [Hd.av] at hc
    by_cases hlt : cmpH a l[mid] < 0
    · have hlt' : cmp3 l[mid].a a < 0 := hlt
      simp [f67l0, f67r3, f67r4, f67r5, f67r6, f67r7, Hd.av, h1, w1, w2, w3, hm, hc, hlt', shI]
      exact gAgain_intro ⟨hi - (mid + 1), by omega, mid + 1, hi, _, _, _, rfl, by omega, hhl, rfl, rfl, fun j hj hjm => by
        by_cases e : j = mid
        · subst e; exact hlt
        · exact hmono j mid hj hm (by omega) hlt, hh⟩
    · have hlt' : ¬ cmp3 l[mid].a a < 0 := hlt
      simp [f67l0, f67r3, f67r4, f67r5, f67r6, f67r7, Hd.av, h1, w1, w2, w3, hm, hc, hlt', shI]
      exact gAgain_intro ⟨mid - lo, by omega, lo, mid, _, _, _, rfl, by omega, by omega, rfl, rfl, hl, fun j hj hjm => by
        by_cases e : mid = j
        · subst e; exact hlt
        · exact fun hx => hlt (hmono mid j hm hj (by omega) hx)⟩
  · have : lo = hi := by omega
    subst this
    simp [f67l0, f67r3]
    have hp : posH l a = lo := pos_unique hhl hl (fun h => hh lo h (Nat.le_refl _))
    rw [← hp]
    exact q _ _ _ _

theorem bs67_c (H : List Lv) (L : Lv) (m : SM) (l : List Hd) (a : Int) (hlen : l.length ≤ 140737488355328) (hmono : Mono (cmpH a) l) :
    pcall (callW G) H L 67 [.sl m (l.map Hd.av), .int .u32 a, .fn 68 []] = some (.tup [.int .i64 (posH l a), .bool (hasH l a)]) := by
  refine pcall_of_wp rfl rfl (by simp) (by simp [yieldF]) ?_
  simp [f67r0, f67r1, f67r2]
  refine bs67_loop (L :: H) m l a hlen hmono (fun a10 a11 a17 a31 => ?_)
  by_cases h1 : posH l a < l.length
  · have hc := fun H L => cmp68_c H L l[posH l a] a
    simp only [Hd.av] at hc
    simp [f67r8, Hd.av, h1, hc, hasH, cmpH]
    exact decide_eq_decide.2 Iff.rfl
  · simp [f67r8, h1, hasH]

theorem place53_c (H : List Lv) (L : Lv) (m : SM) (l : List Hd) (a : Int) (hlen : l.length ≤ 140737488355328) (hmono : Mono (cmpH a) l) :
    pcall (callW G) H L 53 [.sl m (l.map Hd.av), .int .u32 a] = some (.tup [.int .i64 (posH l a), .bool (hasH l a)]) := by
  refine pcall_of_wp rfl rfl (by simp) (by simp [yieldF]) ?_
  have hb := fun H L => bs67_c H L m l a hlen hmono
  simp [f53r0, f53r1, hb]

end Go.Ev.S

/- What is wanted; places. -/
namespace Go.Ev.S
open Go Go.Ev

def leftAt (l : List Hd) (a : Int) : Bool := match l[posH l a]? with
  | some h => decide (0 < h.left)
  | none => false

def Mb.wants (m : Mb) (a : Int) : Bool := if m.ex then (!hasH m.srcs a || leftAt m.srcs a) else hasH m.srcs a

theorem hasH_lt {l : List Hd} {a : Int} (h : hasH l a = true) : posH l a < l.length := by
  unfold hasH at h
  split at h
  · rename_i hx; exact (List.getElem?_eq_some_iff.1 hx).1
  · cases h

theorem wants37_c (H : List Lv) (L : Lv) (m : Mb) (a : Int) (hlen : m.srcs.length ≤ 140737488355328) (hmono : Mono (cmpH a) m.srcs) :
    pcall (callW G) H L 37 [.agg m.av, .int .u32 a] = some (.bool (m.wants a)) := by
  refine pcall_of_wp rfl rfl (by simp [Mb.av]) (by simp [yieldF]) ?_
  obtain ⟨g, ex, left, fl, l⟩ := m
  have hp := fun H L => place53_c H L fl l a hlen hmono
  cases ex with
  | false => simp [f37r0, f37r1, f37r2, f37r4, Mb.av, hp, Mb.wants]
  | true =>
    cases hh : hasH l a with
    | false =>
      simp only [hh] at hp
      simp [f37r0, f37r1, f37r2, f37r3, Mb.av, hp, Mb.wants, hh]
    | true =>
      simp only [hh] at hp
      have hlt := hasH_lt hh
      simp [f37r0, f37r1, f37r2, f37r3, Mb.av, Hd.av, hp, Mb.wants, hh, hlt, leftAt]

def cmpP (port g : Int) (p : Pl) : Int := if cmp3 p.port port = 0 then cmp3 p.mb.g g else cmp3 p.port port
def posP (l : List Pl) (port g : Int) : Nat := posC (cmpP port g) l
def hasP (l : List Pl) (port g : Int) : Bool := match l[posP l port g]? with
  | some p => decide (cmpP port g p = 0)
  | none => false

theorem bs52_loop (H : List Lv) (m : SM) (l : List Pl) (port g : Int) (hlen : l.length ≤ 140737488355328) (hmono : Mono (cmpP port g) l) {a1 a6 a7 a11 a17 a31 : AV} {Q : Ex → Tm → Lv → Prop}
    (q : ∀ a10 a11 a17 a31, Q (.exit 0) [(0, .sl m (l.map Pl.av)), (1, a1), (2, .fn 43 []), (4, .ptr H.length 0 0), (6, a6), (7, a7), (8, .int .i64 l.length), (9, .int .i64 (posP l port g)), (10, a10), (11, a11), (17, a17), (31, a31)] [.cells [.int .i64 port, .int .u32 g]]) :
    @gLoop G H f52l0 [(0, .sl m (l.map Pl.av)), (1, a1), (2, .fn 43 []), (4, .ptr H.length 0 0), (6, a6), (7, a7), (8, .int .i64 l.length), (9, .int .i64 0), (10, .int .i64 l.length), (11, a11), (17, a17), (31, a31)] [.cells [.int .i64 port, .int .u32 g]] ⟨Q⟩ := by
  refine gLoop_inv (fun k T M => ∃ (lo hi : Nat) (a11 a17 a31 : AV), k = hi - lo ∧ lo ≤ hi ∧ hi ≤ l.length ∧ M = [.cells [.int .i64 port, .int .u32 g]] ∧
    T = [(0, .sl m (l.map Pl.av)), (1, a1), (2, .fn 43 []), (4, .ptr H.length 0 0), (6, a6), (7, a7), (8, .int .i64 l.length), (9, .int .i64 lo), (10, .int .i64 hi), (11, a11), (17, a17), (31, a31)] ∧
    (∀ j (h : j < l.length), j < lo → cmpP port g l[j] < 0) ∧ (∀ j (h : j < l.length), hi ≤ j → ¬ cmpP port g l[j] < 0)) l.length ?_ ?_
  · exact ⟨0, l.length, a11, a17, a31, by simp, by simp, by simp, rfl, rfl, by simp, fun j h1 h2 => by omega⟩
  rintro k T M ⟨lo, hi, a11, a17, a31, rfl, hlh, hhl, rfl, rfl, hl, hh⟩
  by_cases h1 : lo < hi
  · obtain ⟨mid, hmid⟩ : ∃ mid, mid = (lo + hi) / 2 := ⟨_, rfl⟩
    have hm : mid < l.length := by omega
    have w1 : IntKind.i64.wrap ((lo : Int) + hi) = (lo : Int) + hi := wrap_i (by omega) (by omega)
    have w2 : IntKind.i64.wrap ((IntKind.u64.wrap ((lo : Int) + hi)).fdiv (2 ^ min 1 IntKind.u64.bits)) = mid := by
      rw [IntWalk.u64_in _ (by omega)]
      have : ((lo : Int) + hi).fdiv (2 ^ min 1 IntKind.u64.bits) = mid := by
        show ((lo : Int) + hi).fdiv 2 = mid
        rw [Int.fdiv_eq_ediv_of_nonneg _ (by omega)]
        omega
      rw [this]
      exact wrap_i (by omega) (by omega)
    have w3 : IntKind.i64.wrap ((mid : Int) + 1) = (mid : Int) + 1 := wrap_i (by omega) (by omega)
    have hc := fun H L => order43_c H L l[mid] port g
    simp only [Pl.av] at hc
    obtain ⟨c, hcd⟩ : ∃ c, c = cmpP port g l[mid] := ⟨_, rfl⟩
    have hc' : (if cmp3 l[mid].port port = 0 then cmp3 l[mid].mb.g g else cmp3 l[mid].port port) = c := hcd.symm
    rw [hc'] at hc
    by_cases hlt : c < 0
    · simp [f52l0, f52r3, f52r4, f52r5, f52r6, Pl.av, h1, w1, w2, w3, hm, hc, hlt, shI]
      exact gAgain_intro ⟨hi - (mid + 1), by omega, mid + 1, hi, _, _, _, rfl, by omega, hhl, rfl, rfl, fun j hj hjm => by
        by_cases e : j = mid
        · subst e; rw [← hcd]; exact hlt
        · exact hmono j mid hj hm (by omega) (by rw [← hcd]; exact hlt), hh⟩
    · simp [f52l0, f52r3, f52r4, f52r5, f52r7, Pl.av, h1, w1, w2, hm, hc, hlt, shI]
      exact gAgain_intro ⟨mid - lo, by omega, lo, mid, _, _, _, rfl, by omega, by omega, rfl, rfl, hl, fun j hj hjm => by
        by_cases e : mid = j
        · subst e; rw [← hcd]; exact hlt
        · exact fun hx => hlt (by rw [hcd]; exact hmono mid j hm hj (by omega) hx)⟩
  · have : lo = hi := by omega
    subst this
    simp [f52l0, f52r3]
    have hp : posP l port g = lo := pos_unique hhl hl (fun h => hh lo h (Nat.le_refl _))
    rw [← hp]
    exact q _ _ _ _

theorem bs52_c (H : List Lv) (L : Lv) (m : SM) (l : List Pl) (port g : Int) (hlen : l.length ≤ 140737488355328) (hmono : Mono (cmpP port g) l) :
    pcall (callW G) H L 52 [.sl m (l.map Pl.av), .agg [.int .i64 port, .int .u32 g], .fn 43 []] = some (.tup [.int .i64 (posP l port g), .bool (hasP l port g)]) := by
  refine pcall_of_wp rfl rfl (by simp) (by simp [yieldF]) ?_
  simp [f52r0, f52r1, f52r2]
  refine bs52_loop (L :: H) m l port g hlen hmono (fun a10 a11 a17 a31 => ?_)
  by_cases h1 : posP l port g < l.length
  · have hc := fun H L => order43_c H L l[posP l port g] port g
    simp only [Pl.av] at hc
    simp [f52r8, Pl.av, h1, hc, hasP, cmpP]
    try exact decide_eq_decide.2 Iff.rfl
  · simp [f52r8, h1, hasP]

theorem place36_c (H : List Lv) (L : Lv) (d : Dbs) (port g : Int) (hlen : d.l.length ≤ 140737488355328) (hmono : Mono (cmpP port g) d.l) :
    pcall (callW G) H L 36 [.agg d.av, .agg [.int .i64 port, .int .u32 g]] = some (.tup [.int .i64 (posP d.l port g), .bool (hasP d.l port g)]) := by
  refine pcall_of_wp rfl rfl (by simp [Dbs.av]) (by simp [yieldF]) ?_
  have hb := fun H L => bs52_c H L d.m d.l port g hlen hmono
  simp [f36r0, f36r1, Dbs.av, hb]

def Dbs.wants (d : Dbs) (port g src : Int) : Bool := hasP d.l port g && (match d.l[posP d.l port g]? with
  | some p => p.mb.wants src
  | none => false)

theorem hasP_lt {l : List Pl} {port g : Int} (h : hasP l port g = true) : posP l port g < l.length := by
  unfold hasP at h
  split at h
  · rename_i hx; exact (List.getElem?_eq_some_iff.1 hx).1
  · cases h

theorem wants18_c (H : List Lv) (L : Lv) (d : Dbs) (port g src : Int) (hlen : d.l.length ≤ 140737488355328) (hmono : Mono (cmpP port g) d.l) (hs : ∀ p ∈ d.l, p.mb.srcs.length ≤ 140737488355328 ∧ Mono (cmpH src) p.mb.srcs) :
    pcall (callW G) H L 18 [.agg d.av, .int .i64 port, .int .u32 g, .int .u32 src] = some (.bool (d.wants port g src)) := by
  refine pcall_of_wp rfl rfl (by simp [Dbs.av]) (by simp [yieldF]) ?_
  have hp := fun H L => place36_c H L d port g hlen hmono
  simp only [Dbs.av] at hp
  cases hh : hasP d.l port g with
  | false =>
    simp only [hh] at hp
    simp [f18r0, f18r1, f18r2, Dbs.av, hp, Dbs.wants, hh]
  | true =>
    simp only [hh] at hp
    have hlt := hasP_lt hh
    have hm := hs _ (List.getElem_mem hlt)
    have hw := fun H L => wants37_c H L d.l[posP d.l port g].mb src hm.1 hm.2
    simp only [Mb.av] at hw
    simp [f18r0, f18r1, f18r2, Dbs.av, Pl.av, hp, hw, Dbs.wants, hh, hlt]

end Go.Ev.S

/- Ports. -/
namespace Go.Ev.S
open Go Go.Ev

def avI (n : Int) : List AV := [.int .i64 n]

def portsL (g src : Int) : List Pl → List Int
  | [] => []
  | p :: r => if decide (p.mb.g = g) && p.mb.wants src then p.port :: portsL g src r else portsL g src r

theorem portsL_len (g src : Int) : ∀ l : List Pl, (portsL g src l).length ≤ l.length
  | [] => by simp [portsL]
  | h :: r => by
    have := portsL_len g src r
    simp only [portsL]
    split <;> simp <;> omega

theorem portsL_snoc (g src : Int) (l : List Pl) (i : Nat) (h : i < l.length) :
    portsL g src (l.take (i + 1)) = portsL g src (l.take i) ++ (if decide (l[i].mb.g = g) && l[i].mb.wants src then [l[i].port] else []) := by
  induction l generalizing i with
  | nil => simp at h
  | cons a r ih =>
    cases i with
    | zero => simp [portsL]
    | succ i =>
      have := ih i (by simpa using h)
      simp only [List.take_succ_cons, portsL, List.getElem_cons_succ]
      split <;> simp [this]

theorem ports21_loop (H : List Lv) (keep last limit g src : Int) (fl : SM) (l : List Pl) (hlen : l.length ≤ 2000) (hs : ∀ p ∈ l, p.mb.srcs.length ≤ 140737488355328 ∧ Mono (cmpH src) p.mb.srcs) {a0 a6 a9 a14 a27 : AV} {Q : Ex → Tm → Lv → Prop}
    (q : ∀ v7 a9 a13 a14 a27 R, Acc H 1 R 1 v7 ((portsL g src l).map avI) → Q (.exit 0) [(0, a0), (1, .int .u32 g), (2, .int .u32 src), (3, .ptr H.length 0 0), (6, a6), (7, v7), (9, a9), (11, .sl fl (l.map Pl.av)), (12, .int .i64 l.length), (13, a13), (14, a14), (27, a27)]
      (.cells [.int .i64 keep, .int .i64 last, .int .i64 limit, .sl fl (l.map Pl.av)] :: R)) :
    @gLoop G H f21l0 [(0, a0), (1, .int .u32 g), (2, .int .u32 src), (3, .ptr H.length 0 0), (6, a6), (7, nilS), (9, a9), (11, .sl fl (l.map Pl.av)), (12, .int .i64 l.length), (13, .int .i64 0), (14, a14), (27, a27)]
      [.cells [.int .i64 keep, .int .i64 last, .int .i64 limit, .sl fl (l.map Pl.av)]] ⟨Q⟩ := by
  refine gLoop_inv (fun j T M => ∃ (i : Nat) (v7 a9 a14 a27 : AV) (R : Lv), j = l.length - i ∧ i ≤ l.length ∧ M = .cells [.int .i64 keep, .int .i64 last, .int .i64 limit, .sl fl (l.map Pl.av)] :: R ∧
    T = [(0, a0), (1, .int .u32 g), (2, .int .u32 src), (3, .ptr H.length 0 0), (6, a6), (7, v7), (9, a9), (11, .sl fl (l.map Pl.av)), (12, .int .i64 l.length), (13, .int .i64 i), (14, a14), (27, a27)] ∧
    Acc H 1 R 1 v7 ((portsL g src (l.take i)).map avI)) l.length ?_ ?_
  · exact ⟨0, nilS, a9, a14, a27, [], by simp, by simp, rfl, rfl, .inl ⟨rfl, by simp [portsL]⟩⟩
  rintro j T M ⟨i, v7, a9, a14, a27, R, rfl, hi, rfl, rfl, hacc⟩
  by_cases h1 : i < l.length
  · have hw2 : IntKind.i64.wrap ((i : Int) + 1) = (i : Int) + 1 := wrap_i (by omega) (by omega)
    have hp := hs _ (List.getElem_mem h1)
    have htl := portsL_len g src (l.take i)
    have htk : (l.take i).length ≤ i := List.length_take_le _ _
    have hsn := portsL_snoc g src l i h1
    have hw := fun H L => wants37_c H L l[i].mb src hp.1 hp.2
    simp only [Mb.av] at hw
    have skip : (decide (l[i].mb.g = g) && l[i].mb.wants src) = false → Acc H 1 R 1 v7 ((portsL g src (l.take (i + 1))).map avI) := fun e => by
      rw [hsn, e]; simpa using hacc
    by_cases hg : l[i].mb.g = g
    · subst hg
      cases hwt : l[i].mb.wants src with
      | true =>
        simp only [hwt] at hw
        simp [f21l0, f21r3, f21r4, f21r5, f21r6, f21r7, Pl.av, h1, hw]
        refine gO_app1 (hacc.grow _) (ys := [avI l[i].port]) (by simp [avI]) (by simp [avI]) (by simp) (by omega) (by simp; omega) (by simp; omega) (fun v' R' k1 k2 k3 => ?_)
        simp [hw2]
        refine gAgain_intro ⟨l.length - (i + 1), by omega, i + 1, _, _, _, _, _, rfl, by omega, rfl, rfl, ?_⟩
        rw [hsn]
        simpa [hwt] using k1
      | false =>
        simp only [hwt] at hw
        simp [f21l0, f21r3, f21r4, f21r5, f21r6, f21r7, Pl.av, h1, hw, hw2]
        exact gAgain_intro ⟨l.length - (i + 1), by omega, i + 1, _, _, _, _, _, rfl, by omega, rfl, rfl, (skip (by simp [hwt])).grow _⟩
    · simp [f21l0, f21r3, f21r4, f21r5, f21r6, f21r7, Pl.av, h1, hg, hw2]
      exact gAgain_intro ⟨l.length - (i + 1), by omega, i + 1, _, _, _, _, _, rfl, by omega, rfl, rfl, (skip (by simp [hg])).grow _⟩
  · have h0 : i = l.length := by omega
    subst h0
    simp [f21l0, f21r3]
    rw [List.take_of_length_le (Nat.le_refl _)] at hacc
    exact q _ _ _ _ _ _ hacc

theorem ports21_c (H : List Lv) (L : Lv) (d : Dbs) (g src : Int) (hlen : d.l.length ≤ 2000) (hs : ∀ p ∈ d.l, p.mb.srcs.length ≤ 140737488355328 ∧ Mono (cmpH src) p.mb.srcs) :
    pcall (callW G) H L 21 [.agg d.av, .int .u32 g, .int .u32 src] = some (.sl (if (portsL g src d.l).isEmpty then nilM else ownM) ((portsL g src d.l).map avI)) := by
  refine pcall_of_wp rfl rfl (by simp [Dbs.av]) (by simp [yieldF]) ?_
  obtain ⟨keep, last, limit, fl, l⟩ := d
  simp [f21r0, f21r1, f21r2, Dbs.av]
  refine ports21_loop (L :: H) keep last limit g src fl l hlen hs (fun v7 a9 a13 a14 a27 R hacc => ?_)
  have hfr := fun c0 => Acc.freeze (P := [c0]) (d := 5) hacc (fun x hx a ha => by
    simp only [List.mem_map] at hx
    obtain ⟨n, _, rfl⟩ := hx
    simp only [avI, List.mem_cons, List.not_mem_nil, or_false] at ha
    subst ha
    exact freezeC_int _ _)
  simp only [List.cons_append, List.nil_append] at hfr
  simp [f21r8, hfr]

end Go.Ev.S

/- Plain laws: order of places; ports; the last tick. -/
namespace Go.Ev.S
open Go Go.Ev

def lexP (q p : Pl) : Prop := q.port < p.port ∨ (q.port = p.port ∧ q.mb.g < p.mb.g)

theorem lexP.trans {a b c : Pl} (h : lexP a b) (k : lexP b c) : lexP a c := by
  unfold lexP at *; omega

theorem okP_lex {q p : Pl} (h : okP (some q) p = true) : lexP q p := by
  simp only [okP, Bool.and_eq_true, Bool.not_eq_true', Bool.or_eq_false_iff, Bool.and_eq_false_iff, decide_eq_false_iff_not] at h
  have := h.2
  unfold lexP
  omega

theorem allP_lex : ∀ (l : List Pl) (q : Option Pl), allP q l = true → l.Pairwise lexP ∧ ∀ q0, q = some q0 → ∀ p ∈ l, lexP q0 p
  | [], _, _ => ⟨.nil, fun _ _ p h => by simp at h⟩
  | a :: r, q, h => by
    simp only [allP, Bool.and_eq_true] at h
    obtain ⟨k1, k2⟩ := allP_lex r _ h.2
    refine ⟨List.pairwise_cons.2 ⟨fun p hp => k2 a rfl p hp, k1⟩, fun q0 hq p hp => ?_⟩
    subst hq
    have ha := okP_lex h.1
    simp only [List.mem_cons] at hp
    rcases hp with rfl | hp
    · exact ha
    · exact ha.trans (k2 a rfl p hp)

theorem Dbs.right_lex {d : Dbs} (h : d.right = true) : d.l.Pairwise lexP := by
  simp only [Dbs.right, Bool.and_eq_true] at h
  exact (allP_lex _ _ h.2).1

theorem okH_lt {ex : Bool} {q p : Hd} (h : okH ex (some q) p = true) : q.a < p.a := by
  simp only [okH, Bool.and_eq_true, decide_eq_true_eq] at h
  exact h.2

theorem allH_lt (ex : Bool) : ∀ (l : List Hd) (q : Option Hd), allH ex q l = true → l.Pairwise (fun x y => x.a < y.a) ∧ ∀ q0, q = some q0 → ∀ p ∈ l, q0.a < p.a
  | [], _, _ => ⟨.nil, fun _ _ p h => by simp at h⟩
  | a :: r, q, h => by
    simp only [allH, Bool.and_eq_true] at h
    obtain ⟨k1, k2⟩ := allH_lt ex r _ h.2
    refine ⟨List.pairwise_cons.2 ⟨fun p hp => k2 a rfl p hp, k1⟩, fun q0 hq p hp => ?_⟩
    subst hq
    have ha := okH_lt h.1
    simp only [List.mem_cons] at hp
    rcases hp with rfl | hp
    · exact ha
    · exact Int.lt_trans ha (k2 a rfl p hp)

theorem Mb.right_lt {m : Mb} (h : m.right = true) : m.srcs.Pairwise (fun x y => x.a < y.a) := by
  simp only [Mb.right, Bool.and_eq_true] at h
  exact (allH_lt _ _ _ h.2).1

theorem cmp3_neg {a b : Int} : cmp3 a b < 0 ↔ a < b := by
  unfold cmp3
  repeat' split
  all_goals omega

theorem cmp3_zero {a b : Int} : cmp3 a b = 0 ↔ a = b := by
  unfold cmp3
  repeat' split
  all_goals omega

theorem mono_H {l : List Hd} (h : l.Pairwise (fun x y => x.a < y.a)) (a : Int) : Mono (cmpH a) l := by
  intro i j hi hj hij hc
  have := List.pairwise_iff_getElem.1 h i j hi hj hij
  simp only [cmpH, cmp3_neg] at hc ⊢
  omega

theorem cmpP_neg {port g : Int} {p : Pl} : cmpP port g p < 0 ↔ (p.port < port ∨ (p.port = port ∧ p.mb.g < g)) := by
  unfold cmpP
  split
  · rename_i h
    rw [cmp3_zero] at h
    rw [cmp3_neg]
    omega
  · rename_i h
    rw [cmp3_zero] at h
    rw [cmp3_neg]
    omega

theorem cmpP_zero {port g : Int} {p : Pl} : cmpP port g p = 0 ↔ (p.port = port ∧ p.mb.g = g) := by
  unfold cmpP
  split
  · rename_i h
    rw [cmp3_zero] at h
    rw [cmp3_zero]
    omega
  · rename_i h
    constructor
    · intro k; exact absurd k h
    · intro k; rw [cmp3_zero] at h; exact absurd k.1 h

theorem mono_P {l : List Pl} (h : l.Pairwise lexP) (port g : Int) : Mono (cmpP port g) l := by
  intro i j hi hj hij hc
  have := List.pairwise_iff_getElem.1 h i j hi hj hij
  rw [cmpP_neg] at hc ⊢
  unfold lexP at this
  omega

theorem posP_at {l : List Pl} (h : l.Pairwise lexP) {port g : Int} {i : Nat} (hi : i < l.length) (h1 : l[i].port = port) (h2 : l[i].mb.g = g) : posP l port g = i := by
  refine pos_unique (Nat.le_of_lt hi) (fun j hj hji => ?_) (fun _ => ?_)
  · have := List.pairwise_iff_getElem.1 h j i hj hi hji
    rw [cmpP_neg]
    unfold lexP at this
    omega
  · rw [cmpP_neg]
    omega

theorem Dbs.wants_iff {d : Dbs} (h : d.l.Pairwise lexP) (port g src : Int) : d.wants port g src = true ↔ ∃ p ∈ d.l, p.port = port ∧ p.mb.g = g ∧ p.mb.wants src = true := by
  constructor
  · intro hw
    simp only [Dbs.wants, Bool.and_eq_true] at hw
    obtain ⟨h1, h2⟩ := hw
    have hlt := hasP_lt h1
    simp only [hasP, List.getElem?_eq_getElem hlt, decide_eq_true_eq, cmpP_zero] at h1
    simp only [List.getElem?_eq_getElem hlt] at h2
    exact ⟨_, List.getElem_mem hlt, h1.1, h1.2, h2⟩
  · rintro ⟨p, hp, h1, h2, h3⟩
    obtain ⟨i, hi, rfl⟩ := List.getElem_of_mem hp
    have hpos := posP_at h hi h1 h2
    have hc : cmpP port g d.l[i] = 0 := cmpP_zero.2 ⟨h1, h2⟩
    simp only [Dbs.wants, hasP, hpos, List.getElem?_eq_getElem hi, hc, h3]
    simp

theorem mem_portsL {g src n : Int} : ∀ {l : List Pl}, n ∈ portsL g src l ↔ ∃ p ∈ l, p.port = n ∧ p.mb.g = g ∧ p.mb.wants src = true
  | [] => by simp [portsL]
  | p :: r => by
    have ih := mem_portsL (g := g) (src := src) (n := n) (l := r)
    simp only [portsL]
    split
    · rename_i h
      simp only [Bool.and_eq_true, decide_eq_true_eq] at h
      simp only [List.mem_cons, ih, exists_eq_or_imp]
      constructor
      · rintro (rfl | h2)
        · exact .inl ⟨rfl, h.1, h.2⟩
        · exact .inr h2
      · rintro (h2 | h2)
        · exact .inl h2.1.symm
        · exact .inr h2
    · rename_i h
      simp only [Bool.and_eq_true, decide_eq_true_eq] at h
      simp only [List.mem_cons, ih, exists_eq_or_imp]
      constructor
      · intro h2; exact .inr h2
      · rintro (h2 | h2)
        · exact absurd h2.2 h
        · exact h2

theorem portsL_lt {g src : Int} : ∀ {l : List Pl}, l.Pairwise lexP → (portsL g src l).Pairwise (· < ·)
  | [], _ => .nil
  | p :: r, h => by
    obtain ⟨h1, h2⟩ := List.pairwise_cons.1 h
    simp only [portsL]
    split
    · rename_i hp
      simp only [Bool.and_eq_true, decide_eq_true_eq] at hp
      refine List.pairwise_cons.2 ⟨fun n hn => ?_, portsL_lt h2⟩
      obtain ⟨q, hq, rfl, hg, _⟩ := mem_portsL.1 hn
      have := h1 q hq
      unfold lexP at this
      omega
    · exact portsL_lt h2

theorem allP_port : ∀ (l : List Pl) (q : Option Pl), allP q l = true → ∀ p ∈ l, 0 ≤ p.port ∧ p.port ≤ 63
  | [], _, _, h, hh => by simp at hh
  | a :: r, p, hall, h, hh => by
    simp only [allP, Bool.and_eq_true] at hall
    simp only [List.mem_cons] at hh
    rcases hh with rfl | hh
    · have := hall.1
      simp only [okP, Bool.and_eq_true, decide_eq_true_eq] at this
      obtain ⟨⟨⟨⟨⟨⟨⟨⟨h1, h2⟩, h3⟩, h4⟩, _⟩, _⟩, _⟩, _⟩, _⟩ := this
      exact ⟨h3, h4⟩
    · exact allP_port r _ hall.2 h hh

theorem Dbs.right_port {d : Dbs} (h : d.right = true) : ∀ p ∈ d.l, 0 ≤ p.port ∧ p.port ≤ 63 := by
  simp only [Dbs.right, Bool.and_eq_true] at h
  exact allP_port _ _ h.2

theorem sub0_max {x : Int} (h : x ≤ 1000000) : sub0 x 1000000 = 0 := by
  unfold sub0
  split <;> omega

theorem tickH_max : ∀ (l : List Hd), (∀ h ∈ l, h.ok) → tickH false 1000000 l = []
  | [], _ => rfl
  | h :: r, hall => by
    have := (hall h (by simp)).left
    rw [tickH, sub0_max this.2, tickH_max r (fun x hx => hall x (by simp [hx]))]
    rfl

theorem tickP_max : ∀ (l : List Pl), (∀ p ∈ l, p.ok) → tickP 1000000 l = []
  | [], _ => rfl
  | p :: r, hall => by
    have hp := (hall p (by simp)).mb
    have hc : clamp 1000000 = 1000000 := clamp_id (by omega) (by omega)
    have : (p.mb.tick 1000000).some = false := by
      simp only [Mb.some, Mb.tick, hc, sub0_max hp.left.2]
      have : (p.mb.ex && decide ((0 : Int) < 0)) = false := by simp
      rw [this, tickH_max _ hp.srcs]
      rfl
    rw [tickP, this, tickP_max r (fun x hx => hall x (by simp [hx]))]
    rfl

theorem Dbs.tick_max {d : Dbs} (h : d.right = true) : (d.tick 1000000).l = [] := by
  have hc : clamp 1000000 = 1000000 := clamp_id (by omega) (by omega)
  simp only [Dbs.tick, hc]
  exact tickP_max _ (Dbs.right_ok h)

end Go.Ev.S
