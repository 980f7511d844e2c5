import Derived.Test.YtiplefdmpcjgcaaGreatDbD
import Derived.Test.YtiplefdmpcjgcaaGreatEvG
namespace Go.Ev.S
open Go Go.Ev

def clamp (n : Int) : Int := if n < 0 then 0 else if 1000000 < n then 1000000 else n
def sub0 (a n : Int) : Int := if a - n < 0 then 0 else a - n

def tickH (ex : Bool) (n : Int) : List Hd → List Hd
  | [] => []
  | h :: r => if ex || decide (0 < sub0 h.left n) then ⟨h.a, sub0 h.left n⟩ :: tickH ex n r else tickH ex n r

def Mb.tick (m : Mb) (n : Int) : Mb :=
  let k := clamp n
  let left := sub0 m.left k
  let ex := m.ex && decide (0 < left)
  let srcs := tickH ex k m.srcs
  ⟨m.g, ex, left, if srcs.isEmpty then nilM else ownM, srcs⟩

theorem tickH_len (ex : Bool) (n : Int) : ∀ l : List Hd, (tickH ex n l).length ≤ l.length
  | [] => by simp [tickH]
  | h :: r => by
    have := tickH_len ex n r
    simp only [tickH]
    split <;> simp <;> omega

theorem tickH_snoc (ex : Bool) (n : Int) (l : List Hd) (i : Nat) (h : i < l.length) :
    tickH ex n (l.take (i + 1)) = tickH ex n (l.take i) ++ (if ex || decide (0 < sub0 l[i].left n) then [⟨l[i].a, sub0 l[i].left n⟩] else []) := by
  induction l generalizing i with
  | nil => simp at h
  | cons a r ih =>
    cases i with
    | zero => simp [tickH]
    | succ i =>
      have := ih i (by simpa using h)
      simp only [List.take_succ_cons, tickH, List.getElem_cons_succ]
      split <;> simp [this]

theorem tick8_loop (H : List Lv) (c1 : AB) (g left k : Int) (ex : Bool) (fl : SM) (srcs : List Hd) (hk : 0 ≤ k ∧ k ≤ 1000000) (hw : ∀ h ∈ srcs, h.ok) (h64 : srcs.length ≤ 64) {a0 a7 a29 a44 : AV} {Q : Ex → Tm → Lv → Prop}
    (q : ∀ v5 a7 a28 a29 a44 R, Acc H 2 R 2 v5 ((tickH ex k srcs).map Hd.av) → Q (.exit 0) [(0, a0), (1, .int .i64 k), (2, .ptr H.length 0 0), (4, .ptr H.length 1 0), (5, v5), (7, a7), (26, .sl fl (srcs.map Hd.av)), (27, .int .i64 srcs.length), (28, a28), (29, a29), (44, a44)]
      (.cells [.int .u32 g, .bool ex, .int .i64 left, .sl fl (srcs.map Hd.av)] :: c1 :: R)) :
    @gLoop G H f38l0 [(0, a0), (1, .int .i64 k), (2, .ptr H.length 0 0), (4, .ptr H.length 1 0), (5, nilS), (7, a7), (26, .sl fl (srcs.map Hd.av)), (27, .int .i64 srcs.length), (28, .int .i64 0), (29, a29), (44, a44)]
      [.cells [.int .u32 g, .bool ex, .int .i64 left, .sl fl (srcs.map Hd.av)], c1] ⟨Q⟩ := by
  refine gLoop_inv (fun j T M => ∃ (i : Nat) (v5 a7 a29 a44 : AV) (R : Lv), j = srcs.length - i ∧ i ≤ srcs.length ∧ M = .cells [.int .u32 g, .bool ex, .int .i64 left, .sl fl (srcs.map Hd.av)] :: c1 :: R ∧
    T = [(0, a0), (1, .int .i64 k), (2, .ptr H.length 0 0), (4, .ptr H.length 1 0), (5, v5), (7, a7), (26, .sl fl (srcs.map Hd.av)), (27, .int .i64 srcs.length), (28, .int .i64 i), (29, a29), (44, a44)] ∧
    Acc H 2 R 2 v5 ((tickH ex k (srcs.take i)).map Hd.av)) srcs.length ?_ ?_
  · exact ⟨0, nilS, a7, a29, a44, [], by simp, by simp, rfl, rfl, .inl ⟨rfl, by simp [tickH]⟩⟩
  rintro j T M ⟨i, v5, a7, a29, a44, R, rfl, hi, rfl, rfl, hacc⟩
  by_cases h1 : i < srcs.length
  · have hw2 : IntKind.i64.wrap ((i : Int) + 1) = (i : Int) + 1 := wrap_i (by omega) (by omega)
    have hh := hw _ (List.getElem_mem h1)
    have htl := tickH_len ex k (srcs.take i)
    have htk : (srcs.take i).length ≤ i := List.length_take_le _ _
    have hl := hh.left
    have hw3 : IntKind.i64.wrap (srcs[i].left - k) = srcs[i].left - k := wrap_i (by omega) (by omega)
    have hs : (if srcs[i].left - k < 0 then 0 else srcs[i].left - k) = sub0 srcs[i].left k := rfl
    have hsn := tickH_snoc ex k srcs i h1
    cases ex
    · simp [f38l0, f38r6, f38r7, f38r8, f38r9, f38r10, f38r11, Hd.av, h1, hw3, hs]
      refine gG_dec ?_ ?_ <;> intro g1 <;> simp [g1, hw2]
      · refine gO_app2 (hacc.grow _) (ys := [Hd.av ⟨srcs[i].a, sub0 srcs[i].left k⟩]) (by simp [Hd.av]) (by simp [Hd.av]) (by simp) (by omega) (by simp; omega) (by simp; omega) (fun v' R' k1 k2 k3 => ?_)
        simp [hw2]
        refine gAgain_intro ⟨srcs.length - (i + 1), by omega, i + 1, _, _, _, _, _, rfl, by omega, rfl, rfl, ?_⟩
        rw [hsn]
        simpa [g1] using k1
      · refine gAgain_intro ⟨srcs.length - (i + 1), by omega, i + 1, _, _, _, _, _, rfl, by omega, rfl, rfl, ?_⟩
        rw [hsn]
        simpa [g1] using hacc.grow _
    · simp [f38l0, f38r6, f38r7, f38r8, f38r9, f38r10, f38r11, Hd.av, h1, hw3, hs]
      refine gO_app2 (hacc.grow _) (ys := [Hd.av ⟨srcs[i].a, sub0 srcs[i].left k⟩]) (by simp [Hd.av]) (by simp [Hd.av]) (by simp) (by omega) (by simp; omega) (by simp; omega) (fun v' R' k1 k2 k3 => ?_)
      simp [hw2]
      refine gAgain_intro ⟨srcs.length - (i + 1), by omega, i + 1, _, _, _, _, _, rfl, by omega, rfl, rfl, ?_⟩
      rw [hsn]
      simpa using k1
  · have h0 : i = srcs.length := by omega
    subst h0
    simp [f38l0, f38r6]
    rw [List.take_of_length_le (Nat.le_refl _)] at hacc
    exact q _ _ _ _ _ _ hacc

theorem clamp_eq (n : Int) : (if 1000000 < if n < 0 then 0 else n then 1000000 else if n < 0 then 0 else n) = clamp n := by
  unfold clamp
  split <;> split <;> (try split) <;> omega

theorem clamp_le (n : Int) : 0 ≤ clamp n ∧ clamp n ≤ 1000000 := by
  unfold clamp
  split <;> (try split) <;> omega

theorem tick8_c (H : List Lv) (L : Lv) (m : Mb) (hm : m.ok) (n : Int) : pcall (callW G) H L 38 [.agg m.av, .int .i64 n] = some (.agg (m.tick n).av) := by
  refine pcall_of_wp rfl rfl (by simp [Mb.av]) (by simp [yieldF]) ?_
  obtain ⟨g, ex, left, fl, srcs⟩ := m
  have hk := clamp_le n
  have hl := hm.left
  have h64 := hm.len
  simp only at hl h64
  have hw : IntKind.i64.wrap (left - clamp n) = left - clamp n := wrap_i (by omega) (by omega)
  have hs : (if left - clamp n < 0 then 0 else left - clamp n) = sub0 left (clamp n) := rfl
  have hce := clamp_eq n
  have main : ∀ (ex' : Bool) (a0 a7 a29 a44 : AV), (ex && decide (0 < sub0 left (clamp n))) = ex' → @gLoop G (L :: H) f38l0 [(0, a0), (1, .int .i64 (clamp n)), (2, .ptr (H.length + 1) 0 0), (4, .ptr (H.length + 1) 1 0), (5, nilS), (7, a7), (26, .sl fl (srcs.map Hd.av)), (27, .int .i64 srcs.length), (28, .int .i64 0), (29, a29), (44, a44)]
      [.cells [.int .u32 g, .bool ex', .int .i64 (sub0 left (clamp n)), .sl fl (srcs.map Hd.av)], .cells [.int .u32 0, .bool false, .int .i64 0, nilS]] ⟨@vBlock 0 ⟨@vThen G (L :: H) (.seq (.reg false f38r12) (.seq (.reg false f38r13) .ret)) ⟨@vRet (L :: H) [.cell 4 true 4] ⟨fun r M => freeze (L :: H) M depth r = some (.agg (Mb.tick ⟨g, ex, left, fl, srcs⟩ n).av)⟩⟩⟩⟩ := by
    intro ex' a0 a7 a29 a44 he
    refine tick8_loop (L :: H) _ g (sub0 left (clamp n)) (clamp n) ex' fl srcs hk hm.srcs h64 (fun v5 a7 a28 a29 a44 R hacc => ?_)
    have hlay := hacc.lay
    have hfr := fun c0 c1 => Acc.freeze (P := [c0, c1]) (d := 4) hacc (fun x hx a ha => by
      simp only [List.mem_map] at hx
      obtain ⟨h, _, rfl⟩ := hx
      simp only [Hd.av, List.mem_cons, List.not_mem_nil, or_false] at ha
      rcases ha with rfl | rfl <;> exact freezeC_int _ _)
    simp only [List.cons_append, List.nil_append] at hfr
    simp [f38r12, f38r13, hlay]
    simp [hfr, Mb.tick, Mb.av, he]
  cases ex
  · simp [f38r0, f38r1, f38r2, f38r3, f38r4, f38r5, Mb.av, hw, hs, hce]
    exact main false _ _ _ _ rfl
  · simp [f38r0, f38r1, f38r2, f38r3, f38r4, f38r5, Mb.av, hw, hs, hce]
    exact main _ _ _ _ _ (by simp)
end Go.Ev.S
