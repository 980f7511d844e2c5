/- Ports. -/
import Derived.Test.YtiplefdmpcjgcaaGreatDbP2
namespace Go.Ev.S
open Go Go.Ev

def avI (n : Int) : List AV := [.int .i64 n]

def portsL (g src : Int) : List Pl → List Int
  | [] => []
  | p :: r => if decide (p.mb.g = g) && p.mb.wants src then p.port :: portsL g src r else portsL g src r

theorem portsL_len (g src : Int) : ∀ l : List Pl, (portsL g src l).length ≤ l.length
  | [] => by simp [portsL]
  | h :: r => by
    have := portsL_len g src r
    simp only [portsL]
    split <;> simp <;> omega

theorem portsL_snoc (g src : Int) (l : List Pl) (i : Nat) (h : i < l.length) :
    portsL g src (l.take (i + 1)) = portsL g src (l.take i) ++ (if decide (l[i].mb.g = g) && l[i].mb.wants src then [l[i].port] else []) := by
  induction l generalizing i with
  | nil => simp at h
  | cons a r ih =>
    cases i with
    | zero => simp [portsL]
    | succ i =>
      have := ih i (by simpa using h)
      simp only [List.take_succ_cons, portsL, List.getElem_cons_succ]
      split <;> simp [this]

theorem ports21_loop (H : List Lv) (keep last limit g src : Int) (fl : SM) (l : List Pl) (hlen : l.length ≤ 2000) (hs : ∀ p ∈ l, p.mb.srcs.length ≤ 140737488355328 ∧ Mono (cmpH src) p.mb.srcs) {a0 a6 a9 a14 a27 : AV} {Q : Ex → Tm → Lv → Prop}
    (q : ∀ v7 a9 a13 a14 a27 R, Acc H 1 R 1 v7 ((portsL g src l).map avI) → Q (.exit 0) [(0, a0), (1, .int .u32 g), (2, .int .u32 src), (3, .ptr H.length 0 0), (6, a6), (7, v7), (9, a9), (11, .sl fl (l.map Pl.av)), (12, .int .i64 l.length), (13, a13), (14, a14), (27, a27)]
      (.cells [.int .i64 keep, .int .i64 last, .int .i64 limit, .sl fl (l.map Pl.av)] :: R)) :
    @gLoop G H f21l0 [(0, a0), (1, .int .u32 g), (2, .int .u32 src), (3, .ptr H.length 0 0), (6, a6), (7, nilS), (9, a9), (11, .sl fl (l.map Pl.av)), (12, .int .i64 l.length), (13, .int .i64 0), (14, a14), (27, a27)]
      [.cells [.int .i64 keep, .int .i64 last, .int .i64 limit, .sl fl (l.map Pl.av)]] ⟨Q⟩ := by
  refine gLoop_inv (fun j T M => ∃ (i : Nat) (v7 a9 a14 a27 : AV) (R : Lv), j = l.length - i ∧ i ≤ l.length ∧ M = .cells [.int .i64 keep, .int .i64 last, .int .i64 limit, .sl fl (l.map Pl.av)] :: R ∧
    T = [(0, a0), (1, .int .u32 g), (2, .int .u32 src), (3, .ptr H.length 0 0), (6, a6), (7, v7), (9, a9), (11, .sl fl (l.map Pl.av)), (12, .int .i64 l.length), (13, .int .i64 i), (14, a14), (27, a27)] ∧
    Acc H 1 R 1 v7 ((portsL g src (l.take i)).map avI)) l.length ?_ ?_
  · exact ⟨0, nilS, a9, a14, a27, [], by simp, by simp, rfl, rfl, .inl ⟨rfl, by simp [portsL]⟩⟩
  rintro j T M ⟨i, v7, a9, a14, a27, R, rfl, hi, rfl, rfl, hacc⟩
  by_cases h1 : i < l.length
  · have hw2 : IntKind.i64.wrap ((i : Int) + 1) = (i : Int) + 1 := wrap_i (by omega) (by omega)
    have hp := hs _ (List.getElem_mem h1)
    have htl := portsL_len g src (l.take i)
    have htk : (l.take i).length ≤ i := List.length_take_le _ _
    have hsn := portsL_snoc g src l i h1
    have hw := fun H L => wants37_c H L l[i].mb src hp.1 hp.2
    simp only [Mb.av] at hw
    have skip : (decide (l[i].mb.g = g) && l[i].mb.wants src) = false → Acc H 1 R 1 v7 ((portsL g src (l.take (i + 1))).map avI) := fun e => by
      rw [hsn, e]; simpa using hacc
    by_cases hg : l[i].mb.g = g
    · subst hg
      cases hwt : l[i].mb.wants src with
      | true =>
        simp only [hwt] at hw
        simp [f21l0, f21r3, f21r4, f21r5, f21r6, f21r7, Pl.av, h1, hw]
        refine gO_app1 (hacc.grow _) (ys := [avI l[i].port]) (by simp [avI]) (by simp [avI]) (by simp) (by omega) (by simp; omega) (by simp; omega) (fun v' R' k1 k2 k3 => ?_)
        simp [hw2]
        refine gAgain_intro ⟨l.length - (i + 1), by omega, i + 1, _, _, _, _, _, rfl, by omega, rfl, rfl, ?_⟩
        rw [hsn]
        simpa [hwt] using k1
      | false =>
        simp only [hwt] at hw
        simp [f21l0, f21r3, f21r4, f21r5, f21r6, f21r7, Pl.av, h1, hw, hw2]
        exact gAgain_intro ⟨l.length - (i + 1), by omega, i + 1, _, _, _, _, _, rfl, by omega, rfl, rfl, (skip (by simp [hwt])).grow _⟩
    · simp [f21l0, f21r3, f21r4, f21r5, f21r6, f21r7, Pl.av, h1, hg, hw2]
      exact gAgain_intro ⟨l.length - (i + 1), by omega, i + 1, _, _, _, _, _, rfl, by omega, rfl, rfl, (skip (by simp [hg])).grow _⟩
  · have h0 : i = l.length := by omega
    subst h0
    simp [f21l0, f21r3]
    rw [List.take_of_length_le (Nat.le_refl _)] at hacc
    exact q _ _ _ _ _ _ hacc

theorem ports21_c (H : List Lv) (L : Lv) (d : Dbs) (g src : Int) (hlen : d.l.length ≤ 2000) (hs : ∀ p ∈ d.l, p.mb.srcs.length ≤ 140737488355328 ∧ Mono (cmpH src) p.mb.srcs) :
    pcall (callW G) H L 21 [.agg d.av, .int .u32 g, .int .u32 src] = some (.sl (if (portsL g src d.l).isEmpty then nilM else ownM) ((portsL g src d.l).map avI)) := by
  refine pcall_of_wp rfl rfl (by simp [Dbs.av]) (by simp [yieldF]) ?_
  obtain ⟨keep, last, limit, fl, l⟩ := d
  simp [f21r0, f21r1, f21r2, Dbs.av]
  refine ports21_loop (L :: H) keep last limit g src fl l hlen hs (fun v7 a9 a13 a14 a27 R hacc => ?_)
  have hfr := fun c0 => Acc.freeze (P := [c0]) (d := 5) hacc (fun x hx a ha => by
    simp only [List.mem_map] at hx
    obtain ⟨n, _, rfl⟩ := hx
    simp only [avI, List.mem_cons, List.not_mem_nil, or_false] at ha
    subst ha
    exact freezeC_int _ _)
  simp only [List.cons_append, List.nil_append] at hfr
  simp [f21r8, hfr]

end Go.Ev.S
