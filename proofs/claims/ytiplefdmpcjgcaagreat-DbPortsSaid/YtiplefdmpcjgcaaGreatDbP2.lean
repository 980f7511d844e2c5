/- What is wanted; places. -/
import Derived.Test.YtiplefdmpcjgcaaGreatDbP1
namespace Go.Ev.S
open Go Go.Ev

def leftAt (l : List Hd) (a : Int) : Bool := match l[posH l a]? with
  | some h => decide (0 < h.left)
  | none => false

def Mb.wants (m : Mb) (a : Int) : Bool := if m.ex then (!hasH m.srcs a || leftAt m.srcs a) else hasH m.srcs a

theorem hasH_lt {l : List Hd} {a : Int} (h : hasH l a = true) : posH l a < l.length := by
  unfold hasH at h
  split at h
  · rename_i hx; exact (List.getElem?_eq_some_iff.1 hx).1
  · cases h

theorem wants37_c (H : List Lv) (L : Lv) (m : Mb) (a : Int) (hlen : m.srcs.length ≤ 140737488355328) (hmono : Mono (cmpH a) m.srcs) :
    pcall (callW G) H L 37 [.agg m.av, .int .u32 a] = some (.bool (m.wants a)) := by
  refine pcall_of_wp rfl rfl (by simp [Mb.av]) (by simp [yieldF]) ?_
  obtain ⟨g, ex, left, fl, l⟩ := m
  have hp := fun H L => place53_c H L fl l a hlen hmono
  cases ex with
  | false => simp [f37r0, f37r1, f37r2, f37r4, Mb.av, hp, Mb.wants]
  | true =>
    cases hh : hasH l a with
    | false =>
      simp only [hh] at hp
      simp [f37r0, f37r1, f37r2, f37r3, Mb.av, hp, Mb.wants, hh]
    | true =>
      simp only [hh] at hp
      have hlt := hasH_lt hh
      simp [f37r0, f37r1, f37r2, f37r3, Mb.av, Hd.av, hp, Mb.wants, hh, hlt, leftAt]

def cmpP (port g : Int) (p : Pl) : Int := if cmp3 p.port port = 0 then cmp3 p.mb.g g else cmp3 p.port port
def posP (l : List Pl) (port g : Int) : Nat := posC (cmpP port g) l
def hasP (l : List Pl) (port g : Int) : Bool := match l[posP l port g]? with
  | some p => decide (cmpP port g p = 0)
  | none => false

theorem bs52_loop (H : List Lv) (m : SM) (l : List Pl) (port g : Int) (hlen : l.length ≤ 140737488355328) (hmono : Mono (cmpP port g) l) {a1 a6 a7 a11 a17 a31 : AV} {Q : Ex → Tm → Lv → Prop}
    (q : ∀ a10 a11 a17 a31, Q (.exit 0) [(0, .sl m (l.map Pl.av)), (1, a1), (2, .fn 43 []), (4, .ptr H.length 0 0), (6, a6), (7, a7), (8, .int .i64 l.length), (9, .int .i64 (posP l port g)), (10, a10), (11, a11), (17, a17), (31, a31)] [.cells [.int .i64 port, .int .u32 g]]) :
    @gLoop G H f52l0 [(0, .sl m (l.map Pl.av)), (1, a1), (2, .fn 43 []), (4, .ptr H.length 0 0), (6, a6), (7, a7), (8, .int .i64 l.length), (9, .int .i64 0), (10, .int .i64 l.length), (11, a11), (17, a17), (31, a31)] [.cells [.int .i64 port, .int .u32 g]] ⟨Q⟩ := by
  refine gLoop_inv (fun k T M => ∃ (lo hi : Nat) (a11 a17 a31 : AV), k = hi - lo ∧ lo ≤ hi ∧ hi ≤ l.length ∧ M = [.cells [.int .i64 port, .int .u32 g]] ∧
    T = [(0, .sl m (l.map Pl.av)), (1, a1), (2, .fn 43 []), (4, .ptr H.length 0 0), (6, a6), (7, a7), (8, .int .i64 l.length), (9, .int .i64 lo), (10, .int .i64 hi), (11, a11), (17, a17), (31, a31)] ∧
    (∀ j (h : j < l.length), j < lo → cmpP port g l[j] < 0) ∧ (∀ j (h : j < l.length), hi ≤ j → ¬ cmpP port g l[j] < 0)) l.length ?_ ?_
  · exact ⟨0, l.length, a11, a17, a31, by simp, by simp, by simp, rfl, rfl, by simp, fun j h1 h2 => by omega⟩
  rintro k T M ⟨lo, hi, a11, a17, a31, rfl, hlh, hhl, rfl, rfl, hl, hh⟩
  by_cases h1 : lo < hi
  · obtain ⟨mid, hmid⟩ : ∃ mid, mid = (lo + hi) / 2 := ⟨_, rfl⟩
    have hm : mid < l.length := by omega
    have w1 : IntKind.i64.wrap ((lo : Int) + hi) = (lo : Int) + hi := wrap_i (by omega) (by omega)
    have w2 : IntKind.i64.wrap ((IntKind.u64.wrap ((lo : Int) + hi)).fdiv (2 ^ min 1 IntKind.u64.bits)) = mid := by
      rw [IntWalk.u64_in _ (by omega)]
      have : ((lo : Int) + hi).fdiv (2 ^ min 1 IntKind.u64.bits) = mid := by
        show ((lo : Int) + hi).fdiv 2 = mid
        rw [Int.fdiv_eq_ediv_of_nonneg _ (by omega)]
        omega
      rw [this]
      exact wrap_i (by omega) (by omega)
    have w3 : IntKind.i64.wrap ((mid : Int) + 1) = (mid : Int) + 1 := wrap_i (by omega) (by omega)
    have hc := fun H L => order43_c H L l[mid] port g
    simp only [Pl.av] at hc
    obtain ⟨c, hcd⟩ : ∃ c, c = cmpP port g l[mid] := ⟨_, rfl⟩
    have hc' : (if cmp3 l[mid].port port = 0 then cmp3 l[mid].mb.g g else cmp3 l[mid].port port) = c := hcd.symm
    rw [hc'] at hc
    by_cases hlt : c < 0
    · simp [f52l0, f52r3, f52r4, f52r5, f52r6, Pl.av, h1, w1, w2, w3, hm, hc, hlt, shI]
      exact gAgain_intro ⟨hi - (mid + 1), by omega, mid + 1, hi, _, _, _, rfl, by omega, hhl, rfl, rfl, fun j hj hjm => by
        by_cases e : j = mid
        · subst e; rw [← hcd]; exact hlt
        · exact hmono j mid hj hm (by omega) (by rw [← hcd]; exact hlt), hh⟩
    · simp [f52l0, f52r3, f52r4, f52r5, f52r7, Pl.av, h1, w1, w2, hm, hc, hlt, shI]
      exact gAgain_intro ⟨mid - lo, by omega, lo, mid, _, _, _, rfl, by omega, by omega, rfl, rfl, hl, fun j hj hjm => by
        by_cases e : mid = j
        · subst e; rw [← hcd]; exact hlt
        · exact fun hx => hlt (by rw [hcd]; exact hmono mid j hm hj (by omega) hx)⟩
  · have : lo = hi := by omega
    subst this
    simp [f52l0, f52r3]
    have hp : posP l port g = lo := pos_unique hhl hl (fun h => hh lo h (Nat.le_refl _))
    rw [← hp]
    exact q _ _ _ _

theorem bs52_c (H : List Lv) (L : Lv) (m : SM) (l : List Pl) (port g : Int) (hlen : l.length ≤ 140737488355328) (hmono : Mono (cmpP port g) l) :
    pcall (callW G) H L 52 [.sl m (l.map Pl.av), .agg [.int .i64 port, .int .u32 g], .fn 43 []] = some (.tup [.int .i64 (posP l port g), .bool (hasP l port g)]) := by
  refine pcall_of_wp rfl rfl (by simp) (by simp [yieldF]) ?_
  simp [f52r0, f52r1, f52r2]
  refine bs52_loop (L :: H) m l port g hlen hmono (fun a10 a11 a17 a31 => ?_)
  by_cases h1 : posP l port g < l.length
  · have hc := fun H L => order43_c H L l[posP l port g] port g
    simp only [Pl.av] at hc
    simp [f52r8, Pl.av, h1, hc, hasP, cmpP]
    try exact decide_eq_decide.2 Iff.rfl
  · simp [f52r8, h1, hasP]

theorem place36_c (H : List Lv) (L : Lv) (d : Dbs) (port g : Int) (hlen : d.l.length ≤ 140737488355328) (hmono : Mono (cmpP port g) d.l) :
    pcall (callW G) H L 36 [.agg d.av, .agg [.int .i64 port, .int .u32 g]] = some (.tup [.int .i64 (posP d.l port g), .bool (hasP d.l port g)]) := by
  refine pcall_of_wp rfl rfl (by simp [Dbs.av]) (by simp [yieldF]) ?_
  have hb := fun H L => bs52_c H L d.m d.l port g hlen hmono
  simp [f36r0, f36r1, Dbs.av, hb]

def Dbs.wants (d : Dbs) (port g src : Int) : Bool := hasP d.l port g && (match d.l[posP d.l port g]? with
  | some p => p.mb.wants src
  | none => false)

theorem hasP_lt {l : List Pl} {port g : Int} (h : hasP l port g = true) : posP l port g < l.length := by
  unfold hasP at h
  split at h
  · rename_i hx; exact (List.getElem?_eq_some_iff.1 hx).1
  · cases h

theorem wants18_c (H : List Lv) (L : Lv) (d : Dbs) (port g src : Int) (hlen : d.l.length ≤ 140737488355328) (hmono : Mono (cmpP port g) d.l) (hs : ∀ p ∈ d.l, p.mb.srcs.length ≤ 140737488355328 ∧ Mono (cmpH src) p.mb.srcs) :
    pcall (callW G) H L 18 [.agg d.av, .int .i64 port, .int .u32 g, .int .u32 src] = some (.bool (d.wants port g src)) := by
  refine pcall_of_wp rfl rfl (by simp [Dbs.av]) (by simp [yieldF]) ?_
  have hp := fun H L => place36_c H L d port g hlen hmono
  simp only [Dbs.av] at hp
  cases hh : hasP d.l port g with
  | false =>
    simp only [hh] at hp
    simp [f18r0, f18r1, f18r2, Dbs.av, hp, Dbs.wants, hh]
  | true =>
    simp only [hh] at hp
    have hlt := hasP_lt hh
    have hm := hs _ (List.getElem_mem hlt)
    have hw := fun H L => wants37_c H L d.l[posP d.l port g].mb src hm.1 hm.2
    simp only [Mb.av] at hw
    simp [f18r0, f18r1, f18r2, Dbs.av, Pl.av, hp, hw, Dbs.wants, hh, hlt]

end Go.Ev.S
