import Derived.Test.YtiplefdmpcjgcaaGreatDbT3
import Derived.Test.YtiplefdmpcjgcaaGreatDbT2
namespace Go.Ev.S
open Go Go.Ev

structure Pl.ok (p : Pl) : Prop where
  v1 : 0 ≤ p.v1 ∧ p.v1 ≤ 1000000
  v2 : 0 ≤ p.v2 ∧ p.v2 ≤ 1000000
  mb : p.mb.ok

def Mb.some (m : Mb) : Bool := m.ex || decide (0 < m.srcs.length)

def Pl.tick (p : Pl) (n : Int) : Pl := ⟨p.port, sub0 p.v1 n, sub0 p.v2 n, p.mb.tick n⟩

def tickP (n : Int) : List Pl → List Pl
  | [] => []
  | p :: r => if (p.mb.tick n).some then p.tick n :: tickP n r else tickP n r

def Dbs.tick (d : Dbs) (n : Int) : Dbs := ⟨d.keep, d.last, d.limit, if (tickP (clamp n) d.l).isEmpty then nilM else ownM, tickP (clamp n) d.l⟩

theorem tickP_len (n : Int) : ∀ l : List Pl, (tickP n l).length ≤ l.length
  | [] => by simp [tickP]
  | h :: r => by
    have := tickP_len n r
    simp only [tickP]
    split <;> simp <;> omega

theorem tickP_snoc (n : Int) (l : List Pl) (i : Nat) (h : i < l.length) :
    tickP n (l.take (i + 1)) = tickP n (l.take i) ++ (if (l[i].mb.tick n).some then [l[i].tick n] else []) := by
  induction l generalizing i with
  | nil => simp at h
  | cons a r ih =>
    cases i with
    | zero => simp [tickP]
    | succ i =>
      have := ih i (by simpa using h)
      simp only [List.take_succ_cons, tickP, List.getElem_cons_succ]
      split <;> simp [this]

theorem tick9_loop (H : List Lv) (c1 : AB) (keep last limit k : Int) (fl : SM) (l : List Pl) (hk : 0 ≤ k ∧ k ≤ 1000000) (hw : ∀ p ∈ l, p.ok) (hlen : l.length ≤ 2000) {a0 a7 a15 a37 : AV} {Q : Ex → Tm → Lv → Prop}
    (q : ∀ v5 a7 a14 a15 a37 R, Acc H 2 R 7 v5 ((tickP k l).map Pl.av) → Q (.exit 0) [(0, a0), (1, .int .i64 k), (2, .ptr H.length 0 0), (4, .ptr H.length 1 0), (5, v5), (7, a7), (12, .sl fl (l.map Pl.av)), (13, .int .i64 l.length), (14, a14), (15, a15), (37, a37)]
      (.cells [.int .i64 keep, .int .i64 last, .int .i64 limit, .sl fl (l.map Pl.av)] :: c1 :: R)) :
    @gLoop G H f20l0 [(0, a0), (1, .int .i64 k), (2, .ptr H.length 0 0), (4, .ptr H.length 1 0), (5, nilS), (7, a7), (12, .sl fl (l.map Pl.av)), (13, .int .i64 l.length), (14, .int .i64 0), (15, a15), (37, a37)]
      [.cells [.int .i64 keep, .int .i64 last, .int .i64 limit, .sl fl (l.map Pl.av)], c1] ⟨Q⟩ := by
  refine gLoop_inv (fun j T M => ∃ (i : Nat) (v5 a7 a15 a37 : AV) (R : Lv), j = l.length - i ∧ i ≤ l.length ∧ M = .cells [.int .i64 keep, .int .i64 last, .int .i64 limit, .sl fl (l.map Pl.av)] :: c1 :: R ∧
    T = [(0, a0), (1, .int .i64 k), (2, .ptr H.length 0 0), (4, .ptr H.length 1 0), (5, v5), (7, a7), (12, .sl fl (l.map Pl.av)), (13, .int .i64 l.length), (14, .int .i64 i), (15, a15), (37, a37)] ∧
    Acc H 2 R 7 v5 ((tickP k (l.take i)).map Pl.av)) l.length ?_ ?_
  · exact ⟨0, nilS, a7, a15, a37, [], by simp, by simp, rfl, rfl, .inl ⟨rfl, by simp [tickP]⟩⟩
  rintro j T M ⟨i, v5, a7, a15, a37, R, rfl, hi, rfl, rfl, hacc⟩
  by_cases h1 : i < l.length
  · have hw2 : IntKind.i64.wrap ((i : Int) + 1) = (i : Int) + 1 := wrap_i (by omega) (by omega)
    have hp := hw _ (List.getElem_mem h1)
    have htl := tickP_len k (l.take i)
    have htk : (l.take i).length ≤ i := List.length_take_le _ _
    have hsn := tickP_snoc k l i h1
    have hv1 := hp.v1
    have hv2 := hp.v2
    have e1 : IntKind.i64.wrap (l[i].v1 - k) = l[i].v1 - k := wrap_i (by omega) (by omega)
    have e2 : IntKind.i64.wrap (l[i].v2 - k) = l[i].v2 - k := wrap_i (by omega) (by omega)
    have s1 : (if l[i].v1 - k < 0 then 0 else l[i].v1 - k) = sub0 l[i].v1 k := rfl
    have s2 : (if l[i].v2 - k < 0 then 0 else l[i].v2 - k) = sub0 l[i].v2 k := rfl
    have ht := fun H L => tick8_c H L l[i].mb hp.mb k
    have hs := fun H L => msome_c H L (l[i].mb.tick k)
    simp only [Mb.av] at ht hs
    cases hsm : (l[i].mb.tick k).some with
    | true =>
      simp only [Mb.some] at hsm
      simp only [hsm] at hs
      simp [f20l0, f20r4, f20r5, f20r6, f20r7, f20r8, f20r9, Pl.av, h1, e1, e2, s1, s2, ht, hs]
      refine gO_app2 (hacc.grow _) (ys := [Pl.av (l[i].tick k)]) (by simp [Pl.av, Pl.tick]) (by simp [Pl.av]) (by simp) (by omega) (by simp; omega) (by simp; omega) (fun v' R' k1 k2 k3 => ?_)
      simp [hw2]
      refine gAgain_intro ⟨l.length - (i + 1), by omega, i + 1, _, _, _, _, _, rfl, by omega, rfl, rfl, ?_⟩
      rw [hsn]
      simpa [Mb.some, hsm] using k1
    | false =>
      simp only [Mb.some] at hsm
      simp only [hsm] at hs
      simp [f20l0, f20r4, f20r5, f20r6, f20r7, f20r8, f20r9, Pl.av, h1, e1, e2, s1, s2, ht, hs, hw2]
      refine gAgain_intro ⟨l.length - (i + 1), by omega, i + 1, _, _, _, _, _, rfl, by omega, rfl, rfl, ?_⟩
      rw [hsn]
      simpa [Mb.some, hsm] using hacc.grow _
  · have h0 : i = l.length := by omega
    subst h0
    simp [f20l0, f20r4]
    rw [List.take_of_length_le (Nat.le_refl _)] at hacc
    exact q _ _ _ _ _ _ hacc

theorem Mb.tick_m (m : Mb) (n : Int) : (m.tick n).m.b = false := by
  simp only [Mb.tick]
  split <;> rfl

theorem tickP_m (n : Int) : ∀ (l : List Pl), ∀ p ∈ tickP n l, p.mb.m.b = false
  | [], p, h => by simp [tickP] at h
  | a :: r, p, h => by
    simp only [tickP] at h
    split at h
    · simp only [List.mem_cons] at h
      rcases h with rfl | h
      · exact Mb.tick_m _ _
      · exact tickP_m n r p h
    · exact tickP_m n r p h

theorem freezeC_pl {H : List Lv} {L : Lv} {d : Nat} (p : Pl) (h : p.mb.m.b = false) : ∀ a ∈ p.av, freezeC H L d a = some a := by
  intro a ha
  simp only [Pl.av, List.mem_cons, List.not_mem_nil, or_false] at ha
  rcases ha with rfl | rfl | rfl | rfl | rfl | rfl | rfl
  all_goals first | exact freezeC_int _ _ | exact freezeC_bool _ | exact freezeC_sl _ _ h

theorem tick9_c (H : List Lv) (L : Lv) (d : Dbs) (hd : ∀ p ∈ d.l, p.ok) (hlen : d.l.length ≤ 2000) (n : Int) : pcall (callW G) H L 20 [.agg d.av, .int .i64 n] = some (.agg (d.tick n).av) := by
  refine pcall_of_wp rfl rfl (by simp [Dbs.av]) (by simp [yieldF]) ?_
  obtain ⟨keep, last, limit, fl, l⟩ := d
  have hce := clamp_eq n
  simp [f20r0, f20r1, f20r2, f20r3, Dbs.av, hce]
  refine tick9_loop (L :: H) _ keep last limit (clamp n) fl l (clamp_le n) hd hlen (fun v5 a7 a14 a15 a37 R hacc => ?_)
  have hlay := hacc.lay
  have hfr := fun c0 c1 => Acc.freeze (P := [c0, c1]) (d := 4) hacc (fun x hx a ha => by
    simp only [List.mem_map] at hx
    obtain ⟨p, hp, rfl⟩ := hx
    exact freezeC_pl p (tickP_m _ _ p hp) a ha)
  simp only [List.cons_append, List.nil_append] at hfr
  simp [f20r10, f20r11, hlay, hfr, Dbs.tick, Dbs.av]

end Go.Ev.S
