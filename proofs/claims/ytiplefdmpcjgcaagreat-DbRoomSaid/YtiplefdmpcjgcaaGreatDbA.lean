/- The data; references' functions. -/
import Derived.Test.YtiplefdmpcjgcaaGreatEvWp
import Derived.IntWalk
import Derived.Test.YtiplefdmpcjgcaaGreatEvG

/- What a database is, as data; and as the evaluator has it. -/
namespace Go.Ev.S
open Go Go.Ev

structure Hd where
  a : Int
  left : Int
  deriving DecidableEq

structure Mb where
  g : Int
  ex : Bool
  left : Int
  m : SM
  srcs : List Hd

structure Pl where
  port : Int
  v1 : Int
  v2 : Int
  mb : Mb

structure Dbs where
  keep : Int
  last : Int
  limit : Int
  m : SM
  l : List Pl

def Hd.av (h : Hd) : List AV := [.int .u32 h.a, .int .i64 h.left]
def Mb.av (m : Mb) : List AV := [.int .u32 m.g, .bool m.ex, .int .i64 m.left, .sl m.m (m.srcs.map Hd.av)]
def Pl.av (p : Pl) : List AV := [.int .i64 p.port, .int .i64 p.v1, .int .i64 p.v2, .int .u32 p.mb.g, .bool p.mb.ex, .int .i64 p.mb.left, .sl p.mb.m (p.mb.srcs.map Hd.av)]
def Dbs.av (d : Dbs) : List AV := [.int .i64 d.keep, .int .i64 d.last, .int .i64 d.limit, .sl d.m (d.l.map Pl.av)]

def isI (n : Int) : Prop := -9223372036854775808 ≤ n ∧ n ≤ 9223372036854775807
def isU (n : Int) : Prop := 0 ≤ n ∧ n ≤ 4294967295

structure Hd.wf (h : Hd) : Prop where
  a : isU h.a
  left : isI h.left

structure Mb.wf (m : Mb) : Prop where
  g : isU m.g
  left : isI m.left
  len : m.srcs.length ≤ 140737488355328
  srcs : ∀ h ∈ m.srcs, h.wf

structure Hd.ok (h : Hd) : Prop where
  left : 0 ≤ h.left ∧ h.left ≤ 1000000

structure Mb.ok (m : Mb) : Prop where
  left : 0 ≤ m.left ∧ m.left ≤ 1000000
  len : m.srcs.length ≤ 64
  srcs : ∀ h ∈ m.srcs, h.ok

structure Pl.wf (p : Pl) : Prop where
  port : isI p.port
  v1 : isI p.v1
  v2 : isI p.v2
  mb : p.mb.wf

structure Dbs.wf (d : Dbs) : Prop where
  keep : isI d.keep
  last : isI d.last
  limit : isI d.limit
  len : d.l.length ≤ 140737488355328
  l : ∀ p ∈ d.l, p.wf

theorem wrap_i {n : Int} (h1 : -9223372036854775808 ≤ n) (h2 : n ≤ 9223372036854775807) : IntKind.i64.wrap n = n := IntWalk.i64_in n ⟨h1, h2⟩
theorem wrap_u {n : Int} (h1 : 0 ≤ n) (h2 : n ≤ 4294967295) : IntKind.u32.wrap n = n := IntWalk.u32_in n ⟨h1, h2⟩

end Go.Ev.S

namespace Go.Ev.S
open Go Go.Ev

def tot (l : List Pl) : Nat := (l.map fun p => p.mb.srcs.length).sum

theorem tot_take (l : List Pl) (i : Nat) (h : i < l.length) : tot (l.take (i + 1)) = tot (l.take i) + l[i].mb.srcs.length := by
  simp only [tot, List.take_succ_eq_append_getElem h, List.map_append, List.sum_append]
  simp

theorem tot_mono (l : List Pl) (i : Nat) : tot (l.take i) ≤ tot l := by
  have := List.take_append_drop i l
  have e : tot l = tot (l.take i) + tot (l.drop i) := by
    simp only [tot, ← List.sum_append, ← List.map_append, this]
  omega

theorem few_c (H : List Lv) (L : Lv) (d : Dbs) (hd : d.wf) : pcall (callW G) H L 10 [.agg d.av] = some (.bool (decide (d.l.length + tot d.l ≤ 2000))) := by
  refine pcall_of_wp rfl rfl (by simp [borrow, depth, Dbs.av]) (by simp [yieldF]) ?_
  simp [f10r0, f10r1, f10r2, Dbs.av]
  refine gLoop_inv (fun k T M => ∃ (i : Nat) (v : AV), k = d.l.length - i ∧ i ≤ d.l.length ∧ M = [.cells d.av] ∧
    T = [(0, .agg d.av), (1, .ptr (H.length + 1) 0 0), (2, .bool false), (3, .int .i64 (d.l.length + tot (d.l.take i) : Nat)), (4, .int .i64 i), (16, v)] ∧
    (0 < i → d.l.length + tot (d.l.take (i - 1)) ≤ 2000)) d.l.length ?_ ?_
  · exact ⟨0, .un, by simp, by simp, rfl, by simp [Dbs.av, tot], by simp⟩
  rintro k T M ⟨i, v, rfl, hi, rfl, rfl, hlt⟩
  have hl := hd.len
  by_cases h1 : i < d.l.length
  · have h2 := (hd.l _ (List.getElem_mem h1)).mb.len
    by_cases h3 : d.l.length + tot (d.l.take i) ≤ 2000
    · have hw : IntKind.i64.wrap (↑d.l.length + ↑(tot (List.take i d.l)) + ↑d.l[i].mb.srcs.length) = ↑d.l.length + ↑(tot (List.take i d.l)) + ↑d.l[i].mb.srcs.length := wrap_i (by omega) (by omega)
      have hw2 : IntKind.i64.wrap (↑i + 1) = ↑i + 1 := wrap_i (by omega) (by omega)
      have h3' : (d.l.length : Int) + (tot (d.l.take i) : Int) ≤ 2000 := by omega
      simp [f10l0, f10r3, f10r4, f10r5, Dbs.av, Pl.av, h1, h3', hw, hw2]
      refine gAgain_intro ⟨d.l.length - (i + 1), by omega, i + 1, .bool true, rfl, by omega, rfl, ?_, ?_⟩
      · simp [tot_take _ _ h1, Dbs.av]; omega
      · simpa using h3
    · have h3' : ¬ (d.l.length : Int) + (tot (d.l.take i) : Int) ≤ 2000 := by omega
      have := tot_mono d.l i
      simp [f10l0, f10r3, f10r6, Dbs.av, h1, h3', freeze, freeV]
      omega
  · have h0 : i = d.l.length := by omega
    subst h0
    simp [f10l0, f10r3, f10r6, Dbs.av, freeze, freeV]
    omega
end Go.Ev.S

namespace Go.Ev.S
open Go Go.Ev

theorem may_c (H : List Lv) (L : Lv) (keep last : Int) : pcall (callW G) H L 24 [.agg [.int .i64 keep, .int .i64 last]] = some (.bool (decide (1 ≤ last) && decide (last ≤ keep) && decide (keep ≤ 1000000))) := by
  refine pcall_of_wp rfl rfl (by simp) (by simp [yieldF]) ?_
  simp [f24r0, f24r1]
  refine gG_dec ?_ ?_ <;> intro h1 <;> simp [h1]
  refine gG_dec ?_ ?_ <;> intro h2 <;> simp [*]

theorem some_c (H : List Lv) (L : Lv) (m : Mb) : pcall (callW G) H L 25 [.agg m.av] = some (.bool (m.ex || decide (0 < m.srcs.length))) := by
  refine pcall_of_wp rfl rfl (by simp [Mb.av]) (by simp [yieldF]) ?_
  simp [f25r0, f25r1, Mb.av]
  cases h : m.ex <;> simp

theorem msome_c (H : List Lv) (L : Lv) (m : Mb) : pcall (callW G) H L 39 [.agg m.av] = some (.bool (m.ex || decide (0 < m.srcs.length))) := by
  refine pcall_of_wp rfl rfl (by simp [Mb.av]) (by simp [yieldF]) ?_
  simp [f39r0, f39r1, Mb.av]
  cases h : m.ex <;> simp

theorem asked_c (H : List Lv) (L : Lv) (g : Int) : pcall (callW G) H L 26 [.int .u32 g] = some (.bool (decide (3758096640 ≤ g) && decide (g ≤ 4026531839))) := by
  refine pcall_of_wp rfl rfl (by simp) (by simp [yieldF]) ?_
  simp [f26r0, f26r1]
  refine gG_dec ?_ ?_ <;> intro h1 <;> simp [h1]

def prevAt {α : Type} (l : List α) (i : Nat) : Option α := if i = 0 then none else l[i - 1]?

/-- Is a source right, behind another one? -/
def okH (ex : Bool) (p : Option Hd) (h : Hd) : Bool :=
  decide (0 ≤ h.left) && decide (h.left ≤ 1000000) && (decide (h.left ≠ 0) || ex) && (match p with | some q => decide (q.a < h.a) | none => true)

def allH (ex : Bool) : Option Hd → List Hd → Bool
  | _, [] => true
  | p, h :: r => okH ex p h && allH ex (some h) r

def Mb.right (m : Mb) : Bool :=
  (decide (3758096640 ≤ m.g) && decide (m.g ≤ 4026531839)) && decide (m.srcs.length ≤ 64) &&
  (if m.ex then decide (1 ≤ m.left) && decide (m.left ≤ 1000000) else decide (m.left = 0)) && allH m.ex none m.srcs

theorem allH_at (ex : Bool) (l : List Hd) (i : Nat) (h : i < l.length) : allH ex (prevAt l i) (l.drop i) = (okH ex (prevAt l i) l[i] && allH ex (prevAt l (i + 1)) (l.drop (i + 1))) := by
  rw [List.drop_eq_getElem_cons h]
  simp [allH, prevAt, h]

theorem right8_loop (H : List Lv) (g left : Int) (ex : Bool) (fl : SM) (srcs : List Hd) (h64 : srcs.length ≤ 64) {a0 a3 a5 a16 a38 a43 a86 : AV} {Q : Ex → Tm → Lv → Prop}
    (q1 : allH ex none srcs = true → ∀ a4 a5 a43 a86, Q (.exit 0) [(0, a0), (1, .ptr H.length 0 0), (2, .bool false), (3, a3), (4, a4), (5, a5), (16, a16), (38, a38), (43, a43), (86, a86)] [.cells [.int .u32 g, .bool ex, .int .i64 left, .sl fl (srcs.map Hd.av)]])
    (q2 : allH ex none srcs = false → ∀ a4 a5 a43 a86, Q .ret [(0, a0), (1, .ptr H.length 0 0), (2, .bool false), (3, a3), (4, a4), (5, a5), (16, a16), (38, a38), (43, a43), (86, a86)] [.cells [.int .u32 g, .bool ex, .int .i64 left, .sl fl (srcs.map Hd.av)]]) :
    @gLoop G H f19l0 [(0, a0), (1, .ptr H.length 0 0), (2, .bool false), (3, a3), (4, .int .i64 0), (5, a5), (16, a16), (38, a38), (43, a43), (86, a86)] [.cells [.int .u32 g, .bool ex, .int .i64 left, .sl fl (srcs.map Hd.av)]] ⟨Q⟩ := by
  refine gLoop_inv (fun k T M => ∃ (i : Nat) (a5 a43 a86 : AV), k = srcs.length - i ∧ i ≤ srcs.length ∧ M = [.cells [.int .u32 g, .bool ex, .int .i64 left, .sl fl (srcs.map Hd.av)]] ∧
    T = [(0, a0), (1, .ptr H.length 0 0), (2, .bool false), (3, a3), (4, .int .i64 i), (5, a5), (16, a16), (38, a38), (43, a43), (86, a86)] ∧
    allH ex none srcs = allH ex (prevAt srcs i) (srcs.drop i)) srcs.length ?_ ?_
  · exact ⟨0, a5, a43, a86, by simp, by simp, rfl, rfl, by simp [prevAt]⟩
  rintro k T M ⟨i, a5, a43, a86, rfl, hi, rfl, rfl, hall⟩
  by_cases h1 : i < srcs.length
  · rw [allH_at _ _ _ h1] at hall
    have hw2 : IntKind.i64.wrap ((i : Int) + 1) = (i : Int) + 1 := wrap_i (by omega) (by omega)
    by_cases h0 : 0 < i
    · obtain ⟨p, hp⟩ : ∃ p, i = p + 1 := ⟨i - 1, by omega⟩
      have hw3 : IntKind.i64.wrap ((i : Int) - 1) = (p : Int) := by rw [wrap_i (by omega) (by omega)]; omega
      have h2 : p < srcs.length := by omega
      have hpr : prevAt srcs i = some srcs[p] := by simp [prevAt, h2, hp]
      rw [hpr] at hall
      cases ex <;> simp [f19l0, f19r7, f19r8, f19r9, f19r10, f19r11, Hd.av, h1]
      all_goals repeat' ((first | refine gG_ndec ?_ ?_ | refine gG_dec ?_ ?_ | refine gG_some ?_ ?_) <;> intro g <;> simp [g, h0, h1, h2, hw2, hw3, Hd.av])
      all_goals first
        | exact q2 (by rw [hall]; simp [okH]; omega) _ _ _ _
        | (refine gAgain_intro ⟨srcs.length - (i + 1), by omega, i + 1, _, _, _, rfl, by omega, rfl, rfl, ?_⟩
           rw [hall]; simp [okH]; omega)
    · have h00 : i = 0 := by omega
      subst h00
      have hpr : prevAt srcs 0 = none := by simp [prevAt]
      rw [hpr] at hall
      cases ex <;> simp [f19l0, f19r7, f19r8, f19r9, f19r10, f19r11, Hd.av, h1]
      all_goals repeat' ((first | refine gG_ndec ?_ ?_ | refine gG_dec ?_ ?_ | refine gG_some ?_ ?_) <;> intro g <;> simp [g, h1, wrap_i, Hd.av])
      all_goals first
        | exact q2 (by rw [hall]; simp [okH]; omega) _ _ _ _
        | (refine gAgain_intro ⟨srcs.length - 1, by omega, 1, _, _, _, rfl, by omega, rfl, rfl, ?_⟩
           rw [hall]; simp [okH]; omega)
  · have h0 : i = srcs.length := by omega
    subst h0
    simp [f19l0, f19r7, Mb.av]
    exact q1 (by rw [hall]; simp [allH]) _ _ _ _

theorem right8_c (H : List Lv) (L : Lv) (m : Mb) : pcall (callW G) H L 19 [.agg m.av] = some (.bool m.right) := by
  refine pcall_of_wp rfl rfl (by simp [Mb.av]) (by simp [yieldF]) ?_
  have hask := fun H L => asked_c H L m.g
  unfold Mb.right
  obtain ⟨g, ex, left, fl, srcs⟩ := m
  simp only at hask
  cases ha : (decide (3758096640 ≤ g) && decide (g ≤ 4026531839)) with
  | false =>
    simp only [ha] at hask
    simp [f19r0, f19r1, f19r2, f19r3, Mb.av, hask]
  | true =>
    simp only [ha] at hask
    clear ha
    by_cases h64 : srcs.length ≤ 64
    · have h64' : ¬ (64 : Int) < srcs.length := by omega
      cases ex with
      | true =>
        simp [f19r0, f19r1, f19r2, f19r3, f19r4, f19r5, f19r6, Mb.av, hask, h64, h64']
        repeat' ((first | refine gG_ndec ?_ ?_ | refine gG_dec ?_ ?_ | refine gG_some ?_ ?_) <;> intro g <;> simp [g])
        all_goals first
          | (intros; omega)
          | (refine right8_loop (L :: H) _ left true fl srcs h64 (fun hq a4 a5 a43 a86 => ?_) (fun hq a4 a5 a43 a86 => ?_)
             · simp [f19r12, hq]; omega
             · simp [hq])
          | trace_state
      | false =>
        simp [f19r0, f19r1, f19r2, f19r3, f19r4, f19r5, f19r6, Mb.av, hask, h64, h64']
        by_cases h1 : left = 0
        · simp [h1]
          refine right8_loop (L :: H) g 0 false fl srcs h64 (fun hq a4 a5 a43 a86 => ?_) (fun hq a4 a5 a43 a86 => ?_)
          · simp [f19r12, hq, h1, h64]
          · simp [hq]
        · simp [h1]
    · have h64' : (64 : Int) < srcs.length := by omega
      simp [f19r0, f19r1, f19r2, f19r3, Mb.av, hask, h64, h64']

end Go.Ev.S

namespace Go.Ev.S
open Go Go.Ev

def clamp (n : Int) : Int := if n < 0 then 0 else if 1000000 < n then 1000000 else n
def sub0 (a n : Int) : Int := if a - n < 0 then 0 else a - n

def tickH (ex : Bool) (n : Int) : List Hd → List Hd
  | [] => []
  | h :: r => if ex || decide (0 < sub0 h.left n) then ⟨h.a, sub0 h.left n⟩ :: tickH ex n r else tickH ex n r

def Mb.tick (m : Mb) (n : Int) : Mb :=
  let k := clamp n
  let left := sub0 m.left k
  let ex := m.ex && decide (0 < left)
  let srcs := tickH ex k m.srcs
  ⟨m.g, ex, left, if srcs.isEmpty then nilM else ownM, srcs⟩

theorem tickH_len (ex : Bool) (n : Int) : ∀ l : List Hd, (tickH ex n l).length ≤ l.length
  | [] => by simp [tickH]
  | h :: r => by
    have := tickH_len ex n r
    simp only [tickH]
    split <;> simp <;> omega

theorem tickH_snoc (ex : Bool) (n : Int) (l : List Hd) (i : Nat) (h : i < l.length) :
    tickH ex n (l.take (i + 1)) = tickH ex n (l.take i) ++ (if ex || decide (0 < sub0 l[i].left n) then [⟨l[i].a, sub0 l[i].left n⟩] else []) := by
  induction l generalizing i with
  | nil => simp at h
  | cons a r ih =>
    cases i with
    | zero => simp [tickH]
    | succ i =>
      have := ih i (by simpa using h)
      simp only [List.take_succ_cons, tickH, List.getElem_cons_succ]
      split <;> simp [this]

theorem tick8_loop (H : List Lv) (c1 : AB) (g left k : Int) (ex : Bool) (fl : SM) (srcs : List Hd) (hk : 0 ≤ k ∧ k ≤ 1000000) (hw : ∀ h ∈ srcs, h.ok) (h64 : srcs.length ≤ 64) {a0 a7 a29 a44 : AV} {Q : Ex → Tm → Lv → Prop}
    (q : ∀ v5 a7 a28 a29 a44 R, Acc H 2 R 2 v5 ((tickH ex k srcs).map Hd.av) → Q (.exit 0) [(0, a0), (1, .int .i64 k), (2, .ptr H.length 0 0), (4, .ptr H.length 1 0), (5, v5), (7, a7), (26, .sl fl (srcs.map Hd.av)), (27, .int .i64 srcs.length), (28, a28), (29, a29), (44, a44)]
      (.cells [.int .u32 g, .bool ex, .int .i64 left, .sl fl (srcs.map Hd.av)] :: c1 :: R)) :
    @gLoop G H f38l0 [(0, a0), (1, .int .i64 k), (2, .ptr H.length 0 0), (4, .ptr H.length 1 0), (5, nilS), (7, a7), (26, .sl fl (srcs.map Hd.av)), (27, .int .i64 srcs.length), (28, .int .i64 0), (29, a29), (44, a44)]
      [.cells [.int .u32 g, .bool ex, .int .i64 left, .sl fl (srcs.map Hd.av)], c1] ⟨Q⟩ := by
  refine gLoop_inv (fun j T M => ∃ (i : Nat) (v5 a7 a29 a44 : AV) (R : Lv), j = srcs.length - i ∧ i ≤ srcs.length ∧ M = .cells [.int .u32 g, .bool ex, .int .i64 left, .sl fl (srcs.map Hd.av)] :: c1 :: R ∧
    T = [(0, a0), (1, .int .i64 k), (2, .ptr H.length 0 0), (4, .ptr H.length 1 0), (5, v5), (7, a7), (26, .sl fl (srcs.map Hd.av)), (27, .int .i64 srcs.length), (28, .int .i64 i), (29, a29), (44, a44)] ∧
    Acc H 2 R 2 v5 ((tickH ex k (srcs.take i)).map Hd.av)) srcs.length ?_ ?_
  · exact ⟨0, nilS, a7, a29, a44, [], by simp, by simp, rfl, rfl, .inl ⟨rfl, by simp [tickH]⟩⟩
  rintro j T M ⟨i, v5, a7, a29, a44, R, rfl, hi, rfl, rfl, hacc⟩
  by_cases h1 : i < srcs.length
  · have hw2 : IntKind.i64.wrap ((i : Int) + 1) = (i : Int) + 1 := wrap_i (by omega) (by omega)
    have hh := hw _ (List.getElem_mem h1)
    have htl := tickH_len ex k (srcs.take i)
    have htk : (srcs.take i).length ≤ i := List.length_take_le _ _
    have hl := hh.left
    have hw3 : IntKind.i64.wrap (srcs[i].left - k) = srcs[i].left - k := wrap_i (by omega) (by omega)
    have hs : (if srcs[i].left - k < 0 then 0 else srcs[i].left - k) = sub0 srcs[i].left k := rfl
    have hsn := tickH_snoc ex k srcs i h1
    cases ex
    · simp [f38l0, f38r6, f38r7, f38r8, f38r9, f38r10, f38r11, Hd.av, h1, hw3, hs]
      refine gG_dec ?_ ?_ <;> intro g1 <;> simp [g1, hw2]
      · refine gO_app2 (hacc.grow _) (ys := [Hd.av ⟨srcs[i].a, sub0 srcs[i].left k⟩]) (by simp [Hd.av]) (by simp [Hd.av]) (by simp) (by omega) (by simp; omega) (by simp; omega) (fun v' R' k1 k2 k3 => ?_)
        simp [hw2]
        refine gAgain_intro ⟨srcs.length - (i + 1), by omega, i + 1, _, _, _, _, _, rfl, by omega, rfl, rfl, ?_⟩
        rw [hsn]
        simpa [g1] using k1
      · refine gAgain_intro ⟨srcs.length - (i + 1), by omega, i + 1, _, _, _, _, _, rfl, by omega, rfl, rfl, ?_⟩
        rw [hsn]
        simpa [g1] using hacc.grow _
    · simp [f38l0, f38r6, f38r7, f38r8, f38r9, f38r10, f38r11, Hd.av, h1, hw3, hs]
      refine gO_app2 (hacc.grow _) (ys := [Hd.av ⟨srcs[i].a, sub0 srcs[i].left k⟩]) (by simp [Hd.av]) (by simp [Hd.av]) (by simp) (by omega) (by simp; omega) (by simp; omega) (fun v' R' k1 k2 k3 => ?_)
      simp [hw2]
      refine gAgain_intro ⟨srcs.length - (i + 1), by omega, i + 1, _, _, _, _, _, rfl, by omega, rfl, rfl, ?_⟩
      rw [hsn]
      simpa using k1
  · have h0 : i = srcs.length := by omega
    subst h0
    simp [f38l0, f38r6]
    rw [List.take_of_length_le (Nat.le_refl _)] at hacc
    exact q _ _ _ _ _ _ hacc

theorem clamp_eq (n : Int) : (if 1000000 < if n < 0 then 0 else n then 1000000 else if n < 0 then 0 else n) = clamp n := by
  unfold clamp
  split <;> split <;> (try split) <;> omega

theorem clamp_le (n : Int) : 0 ≤ clamp n ∧ clamp n ≤ 1000000 := by
  unfold clamp
  split <;> (try split) <;> omega

theorem tick8_c (H : List Lv) (L : Lv) (m : Mb) (hm : m.ok) (n : Int) : pcall (callW G) H L 38 [.agg m.av, .int .i64 n] = some (.agg (m.tick n).av) := by
  refine pcall_of_wp rfl rfl (by simp [Mb.av]) (by simp [yieldF]) ?_
  obtain ⟨g, ex, left, fl, srcs⟩ := m
  have hk := clamp_le n
  have hl := hm.left
  have h64 := hm.len
  simp only at hl h64
  have hw : IntKind.i64.wrap (left - clamp n) = left - clamp n := wrap_i (by omega) (by omega)
  have hs : (if left - clamp n < 0 then 0 else left - clamp n) = sub0 left (clamp n) := rfl
  have hce := clamp_eq n
  have main : ∀ (ex' : Bool) (a0 a7 a29 a44 : AV), (ex && decide (0 < sub0 left (clamp n))) = ex' → @gLoop G (L :: H) f38l0 [(0, a0), (1, .int .i64 (clamp n)), (2, .ptr (H.length + 1) 0 0), (4, .ptr (H.length + 1) 1 0), (5, nilS), (7, a7), (26, .sl fl (srcs.map Hd.av)), (27, .int .i64 srcs.length), (28, .int .i64 0), (29, a29), (44, a44)]
      [.cells [.int .u32 g, .bool ex', .int .i64 (sub0 left (clamp n)), .sl fl (srcs.map Hd.av)], .cells [.int .u32 0, .bool false, .int .i64 0, nilS]] ⟨@vBlock 0 ⟨@vThen G (L :: H) (.seq (.reg false f38r12) (.seq (.reg false f38r13) .ret)) ⟨@vRet (L :: H) [.cell 4 true 4] ⟨fun r M => freeze (L :: H) M depth r = some (.agg (Mb.tick ⟨g, ex, left, fl, srcs⟩ n).av)⟩⟩⟩⟩ := by
    intro ex' a0 a7 a29 a44 he
    refine tick8_loop (L :: H) _ g (sub0 left (clamp n)) (clamp n) ex' fl srcs hk hm.srcs h64 (fun v5 a7 a28 a29 a44 R hacc => ?_)
    have hlay := hacc.lay
    have hfr := fun c0 c1 => Acc.freeze (P := [c0, c1]) (d := 4) hacc (fun x hx a ha => by
      simp only [List.mem_map] at hx
      obtain ⟨h, _, rfl⟩ := hx
      simp only [Hd.av, List.mem_cons, List.not_mem_nil, or_false] at ha
      rcases ha with rfl | rfl <;> exact freezeC_int _ _)
    simp only [List.cons_append, List.nil_append] at hfr
    simp [f38r12, f38r13, hlay]
    simp [hfr, Mb.tick, Mb.av, he]
  cases ex
  · simp [f38r0, f38r1, f38r2, f38r3, f38r4, f38r5, Mb.av, hw, hs, hce]
    exact main false _ _ _ _ rfl
  · simp [f38r0, f38r1, f38r2, f38r3, f38r4, f38r5, Mb.av, hw, hs, hce]
    exact main _ _ _ _ _ (by simp)
end Go.Ev.S

namespace Go.Ev.S
open Go Go.Ev

structure Pl.ok (p : Pl) : Prop where
  v1 : 0 ≤ p.v1 ∧ p.v1 ≤ 1000000
  v2 : 0 ≤ p.v2 ∧ p.v2 ≤ 1000000
  mb : p.mb.ok

def Mb.some (m : Mb) : Bool := m.ex || decide (0 < m.srcs.length)

def Pl.tick (p : Pl) (n : Int) : Pl := ⟨p.port, sub0 p.v1 n, sub0 p.v2 n, p.mb.tick n⟩

def tickP (n : Int) : List Pl → List Pl
  | [] => []
  | p :: r => if (p.mb.tick n).some then p.tick n :: tickP n r else tickP n r

def Dbs.tick (d : Dbs) (n : Int) : Dbs := ⟨d.keep, d.last, d.limit, if (tickP (clamp n) d.l).isEmpty then nilM else ownM, tickP (clamp n) d.l⟩

theorem tickP_len (n : Int) : ∀ l : List Pl, (tickP n l).length ≤ l.length
  | [] => by simp [tickP]
  | h :: r => by
    have := tickP_len n r
    simp only [tickP]
    split <;> simp <;> omega

theorem tickP_snoc (n : Int) (l : List Pl) (i : Nat) (h : i < l.length) :
    tickP n (l.take (i + 1)) = tickP n (l.take i) ++ (if (l[i].mb.tick n).some then [l[i].tick n] else []) := by
  induction l generalizing i with
  | nil => simp at h
  | cons a r ih =>
    cases i with
    | zero => simp [tickP]
    | succ i =>
      have := ih i (by simpa using h)
      simp only [List.take_succ_cons, tickP, List.getElem_cons_succ]
      split <;> simp [this]

theorem tick9_loop (H : List Lv) (c1 : AB) (keep last limit k : Int) (fl : SM) (l : List Pl) (hk : 0 ≤ k ∧ k ≤ 1000000) (hw : ∀ p ∈ l, p.ok) (hlen : l.length ≤ 2000) {a0 a7 a15 a37 : AV} {Q : Ex → Tm → Lv → Prop}
    (q : ∀ v5 a7 a14 a15 a37 R, Acc H 2 R 7 v5 ((tickP k l).map Pl.av) → Q (.exit 0) [(0, a0), (1, .int .i64 k), (2, .ptr H.length 0 0), (4, .ptr H.length 1 0), (5, v5), (7, a7), (12, .sl fl (l.map Pl.av)), (13, .int .i64 l.length), (14, a14), (15, a15), (37, a37)]
      (.cells [.int .i64 keep, .int .i64 last, .int .i64 limit, .sl fl (l.map Pl.av)] :: c1 :: R)) :
    @gLoop G H f20l0 [(0, a0), (1, .int .i64 k), (2, .ptr H.length 0 0), (4, .ptr H.length 1 0), (5, nilS), (7, a7), (12, .sl fl (l.map Pl.av)), (13, .int .i64 l.length), (14, .int .i64 0), (15, a15), (37, a37)]
      [.cells [.int .i64 keep, .int .i64 last, .int .i64 limit, .sl fl (l.map Pl.av)], c1] ⟨Q⟩ := by
  refine gLoop_inv (fun j T M => ∃ (i : Nat) (v5 a7 a15 a37 : AV) (R : Lv), j = l.length - i ∧ i ≤ l.length ∧ M = .cells [.int .i64 keep, .int .i64 last, .int .i64 limit, .sl fl (l.map Pl.av)] :: c1 :: R ∧
    T = [(0, a0), (1, .int .i64 k), (2, .ptr H.length 0 0), (4, .ptr H.length 1 0), (5, v5), (7, a7), (12, .sl fl (l.map Pl.av)), (13, .int .i64 l.length), (14, .int .i64 i), (15, a15), (37, a37)] ∧
    Acc H 2 R 7 v5 ((tickP k (l.take i)).map Pl.av)) l.length ?_ ?_
  · exact ⟨0, nilS, a7, a15, a37, [], by simp, by simp, rfl, rfl, .inl ⟨rfl, by simp [tickP]⟩⟩
  rintro j T M ⟨i, v5, a7, a15, a37, R, rfl, hi, rfl, rfl, hacc⟩
  by_cases h1 : i < l.length
  · have hw2 : IntKind.i64.wrap ((i : Int) + 1) = (i : Int) + 1 := wrap_i (by omega) (by omega)
    have hp := hw _ (List.getElem_mem h1)
    have htl := tickP_len k (l.take i)
    have htk : (l.take i).length ≤ i := List.length_take_le _ _
    have hsn := tickP_snoc k l i h1
    have hv1 := hp.v1
    have hv2 := hp.v2
    have e1 : IntKind.i64.wrap (l[i].v1 - k) = l[i].v1 - k := wrap_i (by omega) (by omega)
    have e2 : IntKind.i64.wrap (l[i].v2 - k) = l[i].v2 - k := wrap_i (by omega) (by omega)
    have s1 : (if l[i].v1 - k < 0 then 0 else l[i].v1 - k) = sub0 l[i].v1 k := rfl
    have s2 : (if l[i].v2 - k < 0 then 0 else l[i].v2 - k) = sub0 l[i].v2 k := rfl
    have ht := fun H L => tick8_c H L l[i].mb hp.mb k
    have hs := fun H L => msome_c H L (l[i].mb.tick k)
    simp only [Mb.av] at ht hs
    cases hsm : (l[i].mb.tick k).some with
    | true =>
      simp only [Mb.some] at hsm
      simp only [hsm] at hs
      simp [f20l0, f20r4, f20r5, f20r6, f20r7, f20r8, f20r9, Pl.av, h1, e1, e2, s1, s2, ht, hs]
      refine gO_app2 (hacc.grow _) (ys := [Pl.av (l[i].tick k)]) (by simp [Pl.av, Pl.tick]) (by simp [Pl.av]) (by simp) (by omega) (by simp; omega) (by simp; omega) (fun v' R' k1 k2 k3 => ?_)
      simp [hw2]
      refine gAgain_intro ⟨l.length - (i + 1), by omega, i + 1, _, _, _, _, _, rfl, by omega, rfl, rfl, ?_⟩
      rw [hsn]
      simpa [Mb.some, hsm] using k1
    | false =>
      simp only [Mb.some] at hsm
      simp only [hsm] at hs
      simp [f20l0, f20r4, f20r5, f20r6, f20r7, f20r8, f20r9, Pl.av, h1, e1, e2, s1, s2, ht, hs, hw2]
      refine gAgain_intro ⟨l.length - (i + 1), by omega, i + 1, _, _, _, _, _, rfl, by omega, rfl, rfl, ?_⟩
      rw [hsn]
      simpa [Mb.some, hsm] using hacc.grow _
  · have h0 : i = l.length := by omega
    subst h0
    simp [f20l0, f20r4]
    rw [List.take_of_length_le (Nat.le_refl _)] at hacc
    exact q _ _ _ _ _ _ hacc

theorem Mb.tick_m (m : Mb) (n : Int) : (m.tick n).m.b = false := by
  simp only [Mb.tick]
  split <;> rfl

theorem tickP_m (n : Int) : ∀ (l : List Pl), ∀ p ∈ tickP n l, p.mb.m.b = false
  | [], p, h => by simp [tickP] at h
  | a :: r, p, h => by
    simp only [tickP] at h
    split at h
    · simp only [List.mem_cons] at h
      rcases h with rfl | h
      · exact Mb.tick_m _ _
      · exact tickP_m n r p h
    · exact tickP_m n r p h

theorem freezeC_pl {H : List Lv} {L : Lv} {d : Nat} (p : Pl) (h : p.mb.m.b = false) : ∀ a ∈ p.av, freezeC H L d a = some a := by
  intro a ha
  simp only [Pl.av, List.mem_cons, List.not_mem_nil, or_false] at ha
  rcases ha with rfl | rfl | rfl | rfl | rfl | rfl | rfl
  all_goals first | exact freezeC_int _ _ | exact freezeC_bool _ | exact freezeC_sl _ _ h

theorem tick9_c (H : List Lv) (L : Lv) (d : Dbs) (hd : ∀ p ∈ d.l, p.ok) (hlen : d.l.length ≤ 2000) (n : Int) : pcall (callW G) H L 20 [.agg d.av, .int .i64 n] = some (.agg (d.tick n).av) := by
  refine pcall_of_wp rfl rfl (by simp [Dbs.av]) (by simp [yieldF]) ?_
  obtain ⟨keep, last, limit, fl, l⟩ := d
  have hce := clamp_eq n
  simp [f20r0, f20r1, f20r2, f20r3, Dbs.av, hce]
  refine tick9_loop (L :: H) _ keep last limit (clamp n) fl l (clamp_le n) hd hlen (fun v5 a7 a14 a15 a37 R hacc => ?_)
  have hlay := hacc.lay
  have hfr := fun c0 c1 => Acc.freeze (P := [c0, c1]) (d := 4) hacc (fun x hx a ha => by
    simp only [List.mem_map] at hx
    obtain ⟨p, hp, rfl⟩ := hx
    exact freezeC_pl p (tickP_m _ _ p hp) a ha)
  simp only [List.cons_append, List.nil_append] at hfr
  simp [f20r10, f20r11, hlay, hfr, Dbs.tick, Dbs.av]

end Go.Ev.S

namespace Go.Ev.S
open Go Go.Ev

def Mb.same (a b : Mb) : Bool := decide (a.g = b.g) && (a.ex == b.ex) && decide (a.left = b.left) && decide (a.srcs = b.srcs)

theorem drop_at {α : Type} (a b : List α) (i : Nat) (ha : i < a.length) (hb : i < b.length) (h : (a = b) ↔ (a.drop i = b.drop i)) : (a = b) ↔ (a[i] = b[i] ∧ a.drop (i + 1) = b.drop (i + 1)) := by
  have e1 := List.drop_eq_getElem_cons ha
  have e2 := List.drop_eq_getElem_cons hb
  rw [h, e1, e2]
  simp only [List.cons.injEq]

theorem same8_loop (H : List Lv) (g left g' left' : Int) (ex ex' : Bool) (fl fl' : SM) (srcs srcs' : List Hd) (hl : srcs.length = srcs'.length) (h64 : srcs.length ≤ 140737488355328) {a0 a1 a33 a38 a51 : AV} {Q : Ex → Tm → Lv → Prop}
    (q1 : srcs = srcs' → ∀ a5 a38 a51, Q (.exit 0) [(0, a0), (1, a1), (2, .ptr H.length 0 0), (3, .ptr H.length 1 0), (4, .bool false), (5, a5), (33, a33), (38, a38), (51, a51)] [.cells [.int .u32 g, .bool ex, .int .i64 left, .sl fl (srcs.map Hd.av)], .cells [.int .u32 g', .bool ex', .int .i64 left', .sl fl' (srcs'.map Hd.av)]])
    (q2 : srcs ≠ srcs' → ∀ a5 a38 a51, Q .ret [(0, a0), (1, a1), (2, .ptr H.length 0 0), (3, .ptr H.length 1 0), (4, .bool false), (5, a5), (33, a33), (38, a38), (51, a51)] [.cells [.int .u32 g, .bool ex, .int .i64 left, .sl fl (srcs.map Hd.av)], .cells [.int .u32 g', .bool ex', .int .i64 left', .sl fl' (srcs'.map Hd.av)]]) :
    @gLoop G H f34l0 [(0, a0), (1, a1), (2, .ptr H.length 0 0), (3, .ptr H.length 1 0), (4, .bool false), (5, .int .i64 0), (33, a33), (38, a38), (51, a51)] [.cells [.int .u32 g, .bool ex, .int .i64 left, .sl fl (srcs.map Hd.av)], .cells [.int .u32 g', .bool ex', .int .i64 left', .sl fl' (srcs'.map Hd.av)]] ⟨Q⟩ := by
  refine gLoop_inv (fun k T M => ∃ (i : Nat) (a38 a51 : AV), k = srcs.length - i ∧ i ≤ srcs.length ∧ M = [.cells [.int .u32 g, .bool ex, .int .i64 left, .sl fl (srcs.map Hd.av)], .cells [.int .u32 g', .bool ex', .int .i64 left', .sl fl' (srcs'.map Hd.av)]] ∧
    T = [(0, a0), (1, a1), (2, .ptr H.length 0 0), (3, .ptr H.length 1 0), (4, .bool false), (5, .int .i64 i), (33, a33), (38, a38), (51, a51)] ∧
    ((srcs = srcs') ↔ srcs.drop i = srcs'.drop i)) srcs.length ?_ ?_
  · exact ⟨0, a38, a51, by simp, by simp, rfl, rfl, by simp⟩
  rintro k T M ⟨i, a38, a51, rfl, hi, rfl, rfl, hall⟩
  by_cases h1 : i < srcs.length
  · have h2 : i < srcs'.length := by omega
    have hw2 : IntKind.i64.wrap ((i : Int) + 1) = (i : Int) + 1 := wrap_i (by omega) (by omega)
    have hd := drop_at srcs srcs' i h1 h2 hall
    have he : (srcs[i] = srcs'[i]) ↔ (srcs[i].a = srcs'[i].a ∧ srcs[i].left = srcs'[i].left) := by
      cases srcs[i]; cases srcs'[i]; simp
    simp [f34l0, f34r4, f34r5, f34r6, f34r7, Hd.av, h1, h2]
    by_cases hx : srcs[i].a = srcs'[i].a
    · by_cases hy : srcs[i].left = srcs'[i].left
      · simp [hx, hy, hw2]
        exact gAgain_intro ⟨srcs.length - (i + 1), by omega, i + 1, _, _, rfl, by omega, rfl, rfl, by rw [hd, he]; simp [hx, hy]⟩
      · simp [hx, hy]
        exact q2 (by rw [Ne, hd, he]; simp [hy]) _ _ _
    · simp [hx]
      exact q2 (by rw [Ne, hd, he]; simp [hx]) _ _ _
  · have h0 : i = srcs.length := by omega
    subst h0
    simp [f34l0, f34r4]
    exact q1 (by rw [hall, List.drop_eq_nil_of_le (Nat.le_refl _), List.drop_eq_nil_of_le (by omega)]) _ _ _

theorem same8_c (H : List Lv) (L : Lv) (a b : Mb) (h64 : a.srcs.length ≤ 140737488355328) : pcall (callW G) H L 34 [.agg a.av, .agg b.av] = some (.bool (a.same b)) := by
  refine pcall_of_wp rfl rfl (by simp [Mb.av]) (by simp [yieldF]) ?_
  obtain ⟨g, ex, left, fl, srcs⟩ := a
  obtain ⟨g', ex', left', fl', srcs'⟩ := b
  simp only at h64
  by_cases h1 : g = g'
  · by_cases h2 : ex = ex'
    · by_cases h3 : left = left'
      · by_cases h4 : srcs.length = srcs'.length
        · simp [f34r0, f34r1, f34r2, f34r3, Mb.av, h1, h2, h3, h4, -Bool.not_eq_eq_eq_not]
          refine same8_loop (L :: H) _ _ _ _ _ _ fl fl' srcs srcs' h4 h64 (fun hq a5 a38 a51 => ?_) (fun hq a5 a38 a51 => ?_)
          · simp [f34r8, Mb.same, h1, h2, h3, hq]
          · simp [Mb.same, hq]
        · have h4' : ¬ (srcs.length : Int) = srcs'.length := by omega
          have h5 : ¬ srcs = srcs' := fun e => h4 (by rw [e])
          simp [f34r0, f34r1, f34r2, Mb.av, h1, h2, h3, h4', h5, Mb.same]
      · simp [f34r0, f34r1, f34r2, Mb.av, h1, h2, h3, Mb.same]
    · have h2' : (ex == ex') = false := by simpa using h2
      simp [f34r0, f34r1, f34r2, Mb.av, h1, h2, h2', Mb.same]
  · simp [f34r0, f34r1, f34r2, Mb.av, h1, Mb.same]

end Go.Ev.S

namespace Go.Ev.S
open Go Go.Ev

def Pl.same (p q : Pl) : Bool := p.mb.same q.mb && decide (p.port = q.port) && decide (p.v1 = q.v1) && decide (p.v2 = q.v2)

def sameL : List Pl → List Pl → Bool
  | [], [] => true
  | p :: r, q :: s => p.same q && sameL r s
  | _, _ => false

def Dbs.same (a b : Dbs) : Bool := decide (a.keep = b.keep) && decide (a.last = b.last) && decide (a.limit = b.limit) && decide (a.l.length = b.l.length) && sameL a.l b.l

theorem sameL_at (a b : List Pl) (i : Nat) (ha : i < a.length) (hb : i < b.length) : sameL (a.drop i) (b.drop i) = (a[i].same b[i] && sameL (a.drop (i + 1)) (b.drop (i + 1))) := by
  rw [List.drop_eq_getElem_cons ha, List.drop_eq_getElem_cons hb, sameL]

theorem same9_loop (H : List Lv) (k0 t0 m0 k1 t1 m1 : Int) (fl fl' : SM) (l l' : List Pl) (hl : l.length = l'.length) (hlen : l.length ≤ 140737488355328) (hs : ∀ p ∈ l, p.mb.srcs.length ≤ 140737488355328) {a0 a1 a6 a7 a8 a29 a34 a74 : AV} {Q : Ex → Tm → Lv → Prop}
    (q1 : sameL l l' = true → ∀ a5 a6 a7 a8 a34 a74 R, Q (.exit 0) [(0, a0), (1, a1), (2, .ptr H.length 0 0), (3, .ptr H.length 1 0), (4, .bool false), (5, a5), (6, a6), (7, a7), (8, a8), (29, a29), (34, a34), (74, a74)] (.cells [.int .i64 k0, .int .i64 t0, .int .i64 m0, .sl fl (l.map Pl.av)] :: .cells [.int .i64 k1, .int .i64 t1, .int .i64 m1, .sl fl' (l'.map Pl.av)] :: R))
    (q2 : sameL l l' = false → ∀ a5 a6 a7 a8 a34 a74 R, Q .ret [(0, a0), (1, a1), (2, .ptr H.length 0 0), (3, .ptr H.length 1 0), (4, .bool false), (5, a5), (6, a6), (7, a7), (8, a8), (29, a29), (34, a34), (74, a74)] (.cells [.int .i64 k0, .int .i64 t0, .int .i64 m0, .sl fl (l.map Pl.av)] :: .cells [.int .i64 k1, .int .i64 t1, .int .i64 m1, .sl fl' (l'.map Pl.av)] :: R)) :
    @gLoop G H f16l0 [(0, a0), (1, a1), (2, .ptr H.length 0 0), (3, .ptr H.length 1 0), (4, .bool false), (5, .int .i64 0), (6, a6), (7, a7), (8, a8), (29, a29), (34, a34), (74, a74)] [.cells [.int .i64 k0, .int .i64 t0, .int .i64 m0, .sl fl (l.map Pl.av)], .cells [.int .i64 k1, .int .i64 t1, .int .i64 m1, .sl fl' (l'.map Pl.av)]] ⟨Q⟩ := by
  refine gLoop_inv (fun k T M => ∃ (i : Nat) (a6 a7 a8 a34 a74 : AV) (R : Lv), k = l.length - i ∧ i ≤ l.length ∧ M = .cells [.int .i64 k0, .int .i64 t0, .int .i64 m0, .sl fl (l.map Pl.av)] :: .cells [.int .i64 k1, .int .i64 t1, .int .i64 m1, .sl fl' (l'.map Pl.av)] :: R ∧
    T = [(0, a0), (1, a1), (2, .ptr H.length 0 0), (3, .ptr H.length 1 0), (4, .bool false), (5, .int .i64 i), (6, a6), (7, a7), (8, a8), (29, a29), (34, a34), (74, a74)] ∧
    sameL l l' = sameL (l.drop i) (l'.drop i)) l.length ?_ ?_
  · exact ⟨0, a6, a7, a8, a34, a74, [], by simp, by simp, rfl, rfl, by simp⟩
  rintro k T M ⟨i, a6, a7, a8, a34, a74, R, rfl, hi, rfl, rfl, hall⟩
  by_cases h1 : i < l.length
  · have h2 : i < l'.length := by omega
    have hw2 : IntKind.i64.wrap ((i : Int) + 1) = (i : Int) + 1 := wrap_i (by omega) (by omega)
    rw [sameL_at l l' i h1 h2] at hall
    have hm := fun H L => same8_c H L l[i].mb l'[i].mb (hs _ (List.getElem_mem h1))
    simp only [Mb.av] at hm
    cases hsm : l[i].mb.same l'[i].mb with
    | false =>
      simp only [hsm] at hm
      simp [f16l0, f16r4, f16r5, f16r6, f16r7, f16r8, f16r9, f16r10, Pl.av, h1, h2, hm]
      exact q2 (by rw [hall]; simp [Pl.same, hsm]) _ _ _ _ _ _ _
    | true =>
      simp only [hsm] at hm
      simp [f16l0, f16r4, f16r5, f16r6, f16r7, f16r8, f16r9, f16r10, Pl.av, h1, h2, hm]
      repeat' ((first | refine gG_ndec ?_ ?_ | refine gG_dec ?_ ?_ | refine gG_some ?_ ?_) <;> intro g <;> simp [g, hw2])
      all_goals first
        | exact q2 (by rw [hall]; simp [Pl.same, *]) _ _ _ _ _ _ _
        | exact gAgain_intro ⟨l.length - (i + 1), by omega, i + 1, _, _, _, _, _, _, rfl, by omega, rfl, rfl, by rw [hall]; simp [Pl.same, *]⟩
  · have h0 : i = l.length := by omega
    subst h0
    simp [f16l0, f16r4]
    exact q1 (by rw [hall, List.drop_eq_nil_of_le (Nat.le_refl _), List.drop_eq_nil_of_le (by omega)]; rfl) _ _ _ _ _ _ _

theorem same9_c (H : List Lv) (L : Lv) (a b : Dbs) (hlen : a.l.length ≤ 140737488355328) (hs : ∀ p ∈ a.l, p.mb.srcs.length ≤ 140737488355328) : pcall (callW G) H L 16 [.agg a.av, .agg b.av] = some (.bool (a.same b)) := by
  refine pcall_of_wp rfl rfl (by simp [Dbs.av]) (by simp [yieldF]) ?_
  obtain ⟨k0, t0, m0, fl, l⟩ := a
  obtain ⟨k1, t1, m1, fl', l'⟩ := b
  simp only at hlen hs
  by_cases h1 : k0 = k1
  · by_cases h2 : t0 = t1
    · by_cases h3 : m0 = m1
      · by_cases h4 : l.length = l'.length
        · simp [f16r0, f16r1, f16r2, f16r3, Dbs.av, h1, h2, h3, h4]
          refine same9_loop (L :: H) _ _ _ _ _ _ fl fl' l l' h4 hlen hs (fun hq a5 a6 a7 a8 a34 a74 R => ?_) (fun hq a5 a6 a7 a8 a34 a74 R => ?_)
          · simp [f16r11, Dbs.same, h1, h2, h3, h4, hq]
          · simp [Dbs.same, hq]
        · have h4' : ¬ (l.length : Int) = l'.length := by omega
          simp [f16r0, f16r1, f16r2, Dbs.av, h1, h2, h3, h4', h4, Dbs.same]
      · simp [f16r0, f16r1, f16r2, Dbs.av, h1, h2, h3, Dbs.same]
    · simp [f16r0, f16r1, f16r2, Dbs.av, h1, h2, Dbs.same]
  · simp [f16r0, f16r1, f16r2, Dbs.av, h1, Dbs.same]

end Go.Ev.S

namespace Go.Ev.S
open Go Go.Ev

/-- Is a place right, behind another one? -/
def okP (q : Option Pl) (p : Pl) : Bool :=
  p.mb.right && p.mb.some && decide (0 ≤ p.port) && decide (p.port ≤ 63) && decide (0 ≤ p.v1) && decide (p.v1 ≤ 1000000) && decide (0 ≤ p.v2) && decide (p.v2 ≤ 1000000) &&
  (match q with | some q => !(decide (p.port < q.port) || decide (q.port = p.port) && decide (p.mb.g ≤ q.mb.g)) | none => true)

def allP : Option Pl → List Pl → Bool
  | _, [] => true
  | q, p :: r => okP q p && allP (some p) r

def Dbs.right (d : Dbs) : Bool :=
  (decide (1 ≤ d.last) && decide (d.last ≤ d.keep) && decide (d.keep ≤ 1000000)) && decide (0 ≤ d.limit) && decide (d.limit ≤ 256) && decide ((d.l.length : Int) ≤ d.limit) && allP none d.l

theorem allP_at (l : List Pl) (i : Nat) (h : i < l.length) : allP (prevAt l i) (l.drop i) = (okP (prevAt l i) l[i] && allP (prevAt l (i + 1)) (l.drop (i + 1))) := by
  rw [List.drop_eq_getElem_cons h]
  simp [allP, prevAt, h]

theorem right9_loop (H : List Lv) (keep last limit : Int) (fl : SM) (l : List Pl) (hlen : l.length ≤ 256) {a0 a3 a5 a6 a7 a30 a35 a83 a85 a112 : AV} {Q : Ex → Tm → Lv → Prop}
    (q1 : allP none l = true → ∀ a4 a5 a6 a7 a35 a83 a85 a112 R, Q (.exit 0) [(0, a0), (1, .ptr H.length 0 0), (2, .bool false), (3, a3), (4, a4), (5, a5), (6, a6), (7, a7), (30, a30), (35, a35), (83, a83), (85, a85), (112, a112)] (.cells [.int .i64 keep, .int .i64 last, .int .i64 limit, .sl fl (l.map Pl.av)] :: R))
    (q2 : allP none l = false → ∀ a4 a5 a6 a7 a35 a83 a85 a112 R, Q .ret [(0, a0), (1, .ptr H.length 0 0), (2, .bool false), (3, a3), (4, a4), (5, a5), (6, a6), (7, a7), (30, a30), (35, a35), (83, a83), (85, a85), (112, a112)] (.cells [.int .i64 keep, .int .i64 last, .int .i64 limit, .sl fl (l.map Pl.av)] :: R)) :
    @gLoop G H f11l0 [(0, a0), (1, .ptr H.length 0 0), (2, .bool false), (3, a3), (4, .int .i64 0), (5, a5), (6, a6), (7, a7), (30, a30), (35, a35), (83, a83), (85, a85), (112, a112)] [.cells [.int .i64 keep, .int .i64 last, .int .i64 limit, .sl fl (l.map Pl.av)]] ⟨Q⟩ := by
  refine gLoop_inv (fun k T M => ∃ (i : Nat) (a5 a6 a7 a35 a83 a85 a112 : AV) (R : Lv), k = l.length - i ∧ i ≤ l.length ∧ M = .cells [.int .i64 keep, .int .i64 last, .int .i64 limit, .sl fl (l.map Pl.av)] :: R ∧
    T = [(0, a0), (1, .ptr H.length 0 0), (2, .bool false), (3, a3), (4, .int .i64 i), (5, a5), (6, a6), (7, a7), (30, a30), (35, a35), (83, a83), (85, a85), (112, a112)] ∧
    allP none l = allP (prevAt l i) (l.drop i)) l.length ?_ ?_
  · exact ⟨0, a5, a6, a7, a35, a83, a85, a112, [], by simp, by simp, rfl, rfl, by simp [prevAt]⟩
  rintro k T M ⟨i, a5, a6, a7, a35, a83, a85, a112, R, rfl, hi, rfl, rfl, hall⟩
  by_cases h1 : i < l.length
  · have hw2 : IntKind.i64.wrap ((i : Int) + 1) = (i : Int) + 1 := wrap_i (by omega) (by omega)
    rw [allP_at l i h1] at hall
    have hr := fun H L => right8_c H L l[i].mb
    have hs := fun H L => some_c H L l[i].mb
    simp only [Mb.av] at hr hs
    cases hrm : l[i].mb.right with
    | false =>
      simp only [hrm] at hr
      simp [f11l0, f11r5, f11r6, f11r7, f11r8, f11r9, Pl.av, h1, hr]
      exact q2 (by rw [hall]; simp [okP, hrm]) _ _ _ _ _ _ _ _ _
    | true =>
      simp only [hrm] at hr
      cases hsm : l[i].mb.some with
      | false =>
        simp only [Mb.some] at hsm
        simp only [hsm] at hs
        simp [f11l0, f11r5, f11r6, f11r7, f11r8, f11r9, Pl.av, h1, hr, hs]
        exact q2 (by rw [hall]; simp only [okP, Mb.some, hsm]; simp) _ _ _ _ _ _ _ _ _
      | true =>
        simp only [Mb.some] at hsm
        simp only [hsm] at hs
        have okp : ∀ q, okP q l[i] = (decide (0 ≤ l[i].port) && decide (l[i].port ≤ 63) && decide (0 ≤ l[i].v1) && decide (l[i].v1 ≤ 1000000) && decide (0 ≤ l[i].v2) && decide (l[i].v2 ≤ 1000000) &&
          (match q with | some q => !(decide (l[i].port < q.port) || decide (q.port = l[i].port) && decide (l[i].mb.g ≤ q.mb.g)) | none => true)) := by
          intro q
          simp only [okP, Mb.some, hrm, hsm, Bool.true_and]
        rw [okp] at hall
        by_cases h0 : 0 < i
        · obtain ⟨p, hp⟩ : ∃ p, i = p + 1 := ⟨i - 1, by omega⟩
          have hw3 : IntKind.i64.wrap ((i : Int) - 1) = (p : Int) := by rw [wrap_i (by omega) (by omega)]; omega
          have h2 : p < l.length := by omega
          have hpr : prevAt l i = some l[p] := by simp [prevAt, h2, hp]
          rw [hpr] at hall
          simp [f11l0, f11r5, f11r6, f11r7, f11r8, f11r9, f11r10, f11r11, f11r12, f11r13, f11r14, Pl.av, h1, hr, hs]
          repeat' ((first | refine gG_ndec ?_ ?_ | refine gG_dec ?_ ?_ | refine gG_some ?_ ?_) <;> intro g <;> simp [g, h0, h1, h2, hw2, hw3, Pl.av])
          all_goals first
            | exact q2 (by rw [hall]; simp; omega) _ _ _ _ _ _ _ _ _
            | exact gAgain_intro ⟨l.length - (i + 1), by omega, i + 1, _, _, _, _, _, _, _, _, rfl, by omega, rfl, rfl, by rw [hall]; simp; omega⟩
        · have h00 : i = 0 := by omega
          subst h00
          have hpr : prevAt l 0 = none := by simp [prevAt]
          rw [hpr] at hall
          simp [f11l0, f11r5, f11r6, f11r7, f11r8, f11r9, f11r10, f11r11, f11r12, f11r13, f11r14, Pl.av, h1, hr, hs]
          repeat' ((first | refine gG_ndec ?_ ?_ | refine gG_dec ?_ ?_ | refine gG_some ?_ ?_) <;> intro g <;> simp [g, h1, wrap_i])
          all_goals first
            | exact q2 (by rw [hall]; simp; omega) _ _ _ _ _ _ _ _ _
            | exact gAgain_intro ⟨l.length - (0 + 1), by omega, 0 + 1, _, _, _, _, _, _, _, _, rfl, by omega, rfl, rfl, by rw [hall]; simp; omega⟩
  · have h0 : i = l.length := by omega
    subst h0
    simp [f11l0, f11r5]
    exact q1 (by rw [hall, List.drop_eq_nil_of_le (Nat.le_refl _)]; rfl) _ _ _ _ _ _ _ _ _

theorem right9_c (H : List Lv) (L : Lv) (d : Dbs) : pcall (callW G) H L 11 [.agg d.av] = some (.bool d.right) := by
  refine pcall_of_wp rfl rfl (by simp [Dbs.av]) (by simp [yieldF]) ?_
  have hm := fun H L => may_c H L d.keep d.last
  unfold Dbs.right
  obtain ⟨keep, last, limit, fl, l⟩ := d
  simp only at hm
  cases ha : (decide (1 ≤ last) && decide (last ≤ keep) && decide (keep ≤ 1000000)) with
  | false =>
    simp only [ha] at hm
    simp [f11r0, f11r1, f11r2, f11r3, Dbs.av, hm]
  | true =>
    simp only [ha] at hm
    clear ha
    by_cases h1 : limit < 0
    · have : ¬ 0 ≤ limit := by omega
      simp [f11r0, f11r1, f11r2, f11r3, Dbs.av, hm, h1, this]
    · by_cases h2 : 256 < limit
      · have : ¬ limit ≤ 256 := by omega
        simp [f11r0, f11r1, f11r2, f11r3, Dbs.av, hm, h1, h2, this]
      · by_cases h3 : limit < (l.length : Int)
        · have : ¬ (l.length : Int) ≤ limit := by omega
          simp [f11r0, f11r1, f11r2, f11r3, Dbs.av, hm, h1, h2, h3, this]
        · have e1 : 0 ≤ limit := by omega
          have e2 : limit ≤ 256 := by omega
          have e3 : (l.length : Int) ≤ limit := by omega
          simp [f11r0, f11r1, f11r2, f11r4, Dbs.av, hm, h1, h2, h3]
          refine right9_loop (L :: H) keep last limit fl l (by omega) (fun hq a4 a5 a6 a7 a35 a83 a85 a112 R => ?_) (fun hq a4 a5 a6 a7 a35 a83 a85 a112 R => ?_)
          · simp [f11r15, hq, e1, e2, e3]
          · simp [hq]

end Go.Ev.S

namespace Go.Ev.S
open Go Go.Ev

theorem clamp_id {n : Int} (h0 : 0 ≤ n) (h1 : n ≤ 1000000) : clamp n = n := by
  unfold clamp
  rw [if_neg (by omega), if_neg (by omega)]

theorem clamp_neg {n : Int} (h : n ≤ 0) : clamp n = 0 := by
  unfold clamp
  split
  · rfl
  · rw [if_neg (by omega)]; omega

theorem sub0_sub0 {x a b : Int} (hx : x ≤ 1000000) (ha : 0 ≤ a) (hb : 0 ≤ b) : sub0 (sub0 x a) b = sub0 x (clamp (a + b)) := by
  simp only [sub0, clamp]
  repeat' split
  all_goals omega

theorem sub0_zero {x : Int} (hx : 0 ≤ x) : sub0 x 0 = x := by
  simp only [sub0]
  split <;> omega

theorem allH_mem (ex : Bool) : ∀ (l : List Hd) (p : Option Hd), allH ex p l = true → ∀ h ∈ l, 0 ≤ h.left ∧ h.left ≤ 1000000 ∧ (h.left ≠ 0 ∨ ex = true)
  | [], _, _, h, hh => by simp at hh
  | a :: r, p, hall, h, hh => by
    simp only [allH, Bool.and_eq_true] at hall
    simp only [List.mem_cons] at hh
    rcases hh with rfl | hh
    · have := hall.1
      simp only [okH, Bool.and_eq_true, Bool.or_eq_true, decide_eq_true_eq] at this
      exact ⟨this.1.1.1, this.1.1.2, this.1.2⟩
    · exact allH_mem ex r _ hall.2 h hh

theorem Mb.right_ok {m : Mb} (h : m.right = true) : m.ok := by
  simp only [Mb.right, Bool.and_eq_true, decide_eq_true_eq] at h
  obtain ⟨⟨⟨_, h1⟩, h2⟩, h3⟩ := h
  refine ⟨?_, h1, fun x hx => ⟨⟨(allH_mem _ _ _ h3 x hx).1, (allH_mem _ _ _ h3 x hx).2.1⟩⟩⟩
  split at h2
  · simp only [Bool.and_eq_true, decide_eq_true_eq] at h2; omega
  · simp only [decide_eq_true_eq] at h2; omega

theorem allP_mem : ∀ (l : List Pl) (q : Option Pl), allP q l = true → ∀ p ∈ l, p.mb.right = true ∧ p.mb.some = true ∧ (0 ≤ p.v1 ∧ p.v1 ≤ 1000000) ∧ (0 ≤ p.v2 ∧ p.v2 ≤ 1000000)
  | [], _, _, h, hh => by simp at hh
  | a :: r, p, hall, h, hh => by
    simp only [allP, Bool.and_eq_true] at hall
    simp only [List.mem_cons] at hh
    rcases hh with rfl | hh
    · have := hall.1
      simp only [okP, Bool.and_eq_true, decide_eq_true_eq] at this
      obtain ⟨⟨⟨⟨⟨⟨⟨⟨h1, h2⟩, _⟩, _⟩, h3⟩, h4⟩, h5⟩, h6⟩, _⟩ := this
      exact ⟨h1, h2, ⟨h3, h4⟩, ⟨h5, h6⟩⟩
    · exact allP_mem r _ hall.2 h hh

theorem Dbs.right_mem {d : Dbs} (h : d.right = true) : ∀ p ∈ d.l, p.mb.right = true ∧ p.mb.some = true ∧ (0 ≤ p.v1 ∧ p.v1 ≤ 1000000) ∧ (0 ≤ p.v2 ∧ p.v2 ≤ 1000000) := by
  simp only [Dbs.right, Bool.and_eq_true] at h
  exact allP_mem _ _ h.2

theorem Dbs.right_len {d : Dbs} (h : d.right = true) : d.l.length ≤ 256 := by
  simp only [Dbs.right, Bool.and_eq_true, decide_eq_true_eq] at h
  omega

theorem Dbs.right_ok {d : Dbs} (h : d.right = true) : ∀ p ∈ d.l, p.ok := fun p hp =>
  let ⟨h1, _, h3, h4⟩ := d.right_mem h p hp
  ⟨h3, h4, Mb.right_ok h1⟩

theorem tickH_ok (ex : Bool) (n : Int) (hn : 0 ≤ n) : ∀ l : List Hd, (∀ h ∈ l, h.ok) → ∀ h ∈ tickH ex n l, h.ok
  | [], _, h, hh => by simp [tickH] at hh
  | a :: r, hall, h, hh => by
    simp only [tickH] at hh
    have ha := (hall a (by simp)).left
    split at hh
    · simp only [List.mem_cons] at hh
      rcases hh with rfl | hh
      · refine ⟨?_⟩
        simp only [sub0]
        split <;> omega
      · exact tickH_ok ex n hn r (fun x hx => hall x (by simp [hx])) h hh
    · exact tickH_ok ex n hn r (fun x hx => hall x (by simp [hx])) h hh

theorem Mb.tick_ok {m : Mb} (h : m.ok) (n : Int) : (m.tick n).ok := by
  have hk := clamp_le n
  refine ⟨?_, ?_, ?_⟩
  · have := h.left
    simp only [Mb.tick, sub0]
    split <;> omega
  · have := tickH_len (m.ex && decide (0 < sub0 m.left (clamp n))) (clamp n) m.srcs
    have := h.len
    simp only [Mb.tick]
    omega
  · exact tickH_ok _ _ hk.1 _ h.srcs

theorem tickP_ok (n : Int) (hn : 0 ≤ n) : ∀ l : List Pl, (∀ p ∈ l, p.ok) → ∀ p ∈ tickP n l, p.ok
  | [], _, h, hh => by simp [tickP] at hh
  | a :: r, hall, h, hh => by
    simp only [tickP] at hh
    have ha := hall a (by simp)
    split at hh
    · simp only [List.mem_cons] at hh
      rcases hh with rfl | hh
      · have h1 := ha.v1
        have h2 := ha.v2
        refine ⟨?_, ?_, Mb.tick_ok ha.mb n⟩
        · simp only [Pl.tick, sub0]; split <;> omega
        · simp only [Pl.tick, sub0]; split <;> omega
      · exact tickP_ok n hn r (fun x hx => hall x (by simp [hx])) h hh
    · exact tickP_ok n hn r (fun x hx => hall x (by simp [hx])) h hh

/-- Two ticks of sources. -/
theorem tickH_tickH (e1 e2 : Bool) (a b : Int) (he : e2 = true → e1 = true) (ha : 0 ≤ a) (hb : 0 ≤ b) : ∀ l : List Hd, (∀ h ∈ l, h.ok) → tickH e2 b (tickH e1 a l) = tickH e2 (clamp (a + b)) l
  | [], _ => by simp [tickH]
  | h :: r, hall => by
    have hh := (hall h (by simp)).left
    have ih := tickH_tickH e1 e2 a b he ha hb r (fun x hx => hall x (by simp [hx]))
    have hs := sub0_sub0 (x := h.left) hh.2 ha hb
    by_cases h1 : (e1 || decide (0 < sub0 h.left a)) = true
    · rw [tickH, if_pos h1, tickH, tickH, ih, hs]
    · rw [tickH, if_neg h1, ih, tickH, if_neg]
      intro h2
      apply h1
      simp only [Bool.or_eq_true, decide_eq_true_eq] at h2 ⊢
      rcases h2 with h2 | h2
      · exact .inl (he h2)
      · right
        rw [← hs] at h2
        revert h2
        simp only [sub0]
        repeat' split
        all_goals omega

theorem Mb.tick_tick {m : Mb} (h : m.ok) {a b : Int} (ha : 0 ≤ a) (ha1 : a ≤ 1000000) (hb : 0 ≤ b) (hb1 : b ≤ 1000000) :
    ((m.tick a).tick b).g = (m.tick (a + b)).g ∧ ((m.tick a).tick b).ex = (m.tick (a + b)).ex ∧ ((m.tick a).tick b).left = (m.tick (a + b)).left ∧ ((m.tick a).tick b).srcs = (m.tick (a + b)).srcs := by
  have hs := sub0_sub0 (x := m.left) h.left.2 ha hb
  have hex : (m.ex && decide (0 < sub0 m.left a) && decide (0 < sub0 m.left (clamp (a + b)))) = (m.ex && decide (0 < sub0 m.left (clamp (a + b)))) := by
    cases m.ex
    · rfl
    · rw [← hs]
      by_cases h2 : 0 < sub0 (sub0 m.left a) b
      · have : 0 < sub0 m.left a := by
          revert h2
          simp only [sub0]
          repeat' split
          all_goals omega
        simp [this]
      · simp [h2]
  simp only [Mb.tick, clamp_id ha ha1, clamp_id hb hb1, hs, hex]
  refine ⟨trivial, trivial, trivial, ?_⟩
  refine tickH_tickH _ _ a b (fun he => ?_) ha hb m.srcs h.srcs
  rw [← hex] at he
  simp only [Bool.and_eq_true] at he ⊢
  exact he.1

theorem clamp_clamp (n : Int) : clamp (clamp n) = clamp n := by
  have := clamp_le n
  exact clamp_id this.1 this.2

theorem Mb.tick_clamp (m : Mb) (n : Int) : m.tick (clamp n) = m.tick n := by
  simp only [Mb.tick, clamp_clamp]

theorem Mb.same_of {a b : Mb} (h1 : a.g = b.g) (h2 : a.ex = b.ex) (h3 : a.left = b.left) (h4 : a.srcs = b.srcs) : a.same b = true := by
  simp [Mb.same, h1, h2, h3, h4]

theorem sameL_len : ∀ (a b : List Pl), sameL a b = true → a.length = b.length
  | [], [], _ => rfl
  | p :: r, q :: s, h => by
    simp only [sameL, Bool.and_eq_true] at h
    simp [sameL_len r s h.2]
  | [], _ :: _, h => by simp [sameL] at h
  | _ :: _, [], h => by simp [sameL] at h

theorem tickP_tickP {a b : Int} (ha : 0 ≤ a) (ha1 : a ≤ 1000000) (hb : 0 ≤ b) (hb1 : b ≤ 1000000) : ∀ l : List Pl, (∀ p ∈ l, p.ok) → sameL (tickP b (tickP a l)) (tickP (clamp (a + b)) l) = true
  | [], _ => by simp [tickP, sameL]
  | p :: r, hall => by
    have hp := hall p (by simp)
    have ih := tickP_tickP ha ha1 hb hb1 r (fun x hx => hall x (by simp [hx]))
    obtain ⟨h1, h2, h3, h4⟩ := Mb.tick_tick hp.mb ha ha1 hb hb1
    have hc : p.mb.tick (clamp (a + b)) = p.mb.tick (a + b) := Mb.tick_clamp _ _
    have hsome : ((p.mb.tick a).tick b).some = (p.mb.tick (a + b)).some := by simp only [Mb.some, h2, h4]
    by_cases hs : (p.mb.tick a).some = true
    · rw [tickP, if_pos hs, tickP, tickP, hc]
      have e : (p.tick a).mb = p.mb.tick a := rfl
      rw [e, hsome]
      split
      · simp only [sameL, ih, Bool.and_true]
        simp only [Pl.same, Pl.tick, hc, Mb.same_of h1 h2 h3 h4, sub0_sub0 hp.v1.2 ha hb, sub0_sub0 hp.v2.2 ha hb]
        simp
      · exact ih
    · have hn : ¬ (p.mb.tick (a + b)).some = true := by
        rw [← hsome]
        simp only [Mb.some, Bool.or_eq_true, decide_eq_true_eq, not_or] at hs ⊢
        obtain ⟨hs1, hs2⟩ := hs
        have e1 : (p.mb.tick a).srcs = [] := List.eq_nil_of_length_eq_zero (by omega)
        have e2 : (p.mb.tick a).ex = false := by simpa using hs1
        generalize p.mb.tick a = q at e1 e2
        simp [Mb.tick, e1, e2, tickH]
      rw [tickP, if_neg hs, tickP, hc, if_neg hn]
      exact ih

theorem tickH_zero (ex : Bool) : ∀ (l : List Hd), (∀ h ∈ l, 0 ≤ h.left ∧ h.left ≤ 1000000 ∧ (h.left ≠ 0 ∨ ex = true)) → tickH ex 0 l = l
  | [], _ => rfl
  | h :: r, hall => by
    obtain ⟨h1, h2, h3⟩ := hall h (by simp)
    rw [tickH, sub0_zero h1, tickH_zero ex r (fun x hx => hall x (by simp [hx])), if_pos]
    simp only [Bool.or_eq_true, decide_eq_true_eq]
    rcases h3 with h3 | h3
    · right; omega
    · exact .inl h3

theorem Mb.tick_zero {m : Mb} (h : m.right = true) : (m.tick 0).g = m.g ∧ (m.tick 0).ex = m.ex ∧ (m.tick 0).left = m.left ∧ (m.tick 0).srcs = m.srcs := by
  have hok := Mb.right_ok h
  simp only [Mb.right, Bool.and_eq_true] at h
  obtain ⟨⟨_, h2⟩, h3⟩ := h
  have hc : clamp 0 = 0 := clamp_neg (by omega)
  have hex : (m.ex && decide (0 < m.left)) = m.ex := by
    cases hx : m.ex
    · rfl
    · simp only [hx, if_true, Bool.and_eq_true, decide_eq_true_eq] at h2
      simp; omega
  simp only [Mb.tick, hc, sub0_zero hok.left.1, hex]
  exact ⟨trivial, trivial, trivial, tickH_zero _ _ (allH_mem _ _ _ h3)⟩

theorem tickP_zero : ∀ (l : List Pl), (∀ p ∈ l, p.mb.right = true ∧ p.mb.some = true ∧ (0 ≤ p.v1 ∧ p.v1 ≤ 1000000) ∧ (0 ≤ p.v2 ∧ p.v2 ≤ 1000000)) → sameL (tickP 0 l) l = true
  | [], _ => rfl
  | p :: r, hall => by
    obtain ⟨h1, h2, h3, h4⟩ := hall p (by simp)
    obtain ⟨e1, e2, e3, e4⟩ := Mb.tick_zero h1
    have hs : (p.mb.tick 0).some = true := by rw [← h2]; simp only [Mb.some, e2, e4]
    rw [tickP, if_pos hs, sameL, tickP_zero r (fun x hx => hall x (by simp [hx])), Bool.and_true]
    simp only [Pl.same, Pl.tick, Mb.same_of e1 e2 e3 e4, sub0_zero h3.1, sub0_zero h4.1]
    simp

theorem Dbs.tick_tick {d : Dbs} (h : d.right = true) {a b : Int} (ha : 0 ≤ a) (ha1 : a ≤ 1000000) (hb : 0 ≤ b) (hb1 : b ≤ 1000000) : ((d.tick a).tick b).same (d.tick (a + b)) = true := by
  have hs := tickP_tickP ha ha1 hb hb1 d.l (Dbs.right_ok h)
  simp only [Dbs.tick, Dbs.same, clamp_id ha ha1, clamp_id hb hb1, hs, sameL_len _ _ hs]
  simp

theorem Dbs.tick_zero {d : Dbs} (h : d.right = true) {n : Int} (hn : n ≤ 0) : (d.tick n).same d = true := by
  have hs := tickP_zero d.l (Dbs.right_mem h)
  simp only [Dbs.tick, Dbs.same, clamp_neg hn, hs, sameL_len _ _ hs]
  simp

theorem Dbs.tick_len (d : Dbs) (a : Int) : (d.tick a).l.length ≤ d.l.length := tickP_len _ _

theorem Dbs.tick_ok {d : Dbs} (h : ∀ p ∈ d.l, p.ok) (a : Int) : ∀ p ∈ (d.tick a).l, p.ok := tickP_ok _ (clamp_le a).1 _ h

end Go.Ev.S
