import Derived.Test.YtiplefdmpcjgcaaGreatDbM2
import Derived.Test.YtiplefdmpcjgcaaGreatDbT
import Derived.Test.YtiplefdmpcjgcaaGreatDbTicks
namespace Go.Ev.S
open Go Go.Ev

theorem ports_at {ps : List Int} (h : ps.Pairwise (· < ·)) {n : Int} {k : Nat} (h1 : ∀ x ∈ ps.take k, x < n) (h2 : ∀ x ∈ ps.drop k, n ≤ x) (hm : n ∈ ps) : ∃ hk : k < ps.length, ps[k] = n := by
  have hd : n ∈ ps.drop k := by
    rw [← List.take_append_drop k ps, List.mem_append] at hm
    rcases hm with hm | hm
    · have := h1 n hm; omega
    · exact hm
  have hk : k < ps.length := by
    apply Classical.byContradiction
    intro hc
    rw [List.drop_eq_nil_of_le (by omega)] at hd
    simp at hd
  refine ⟨hk, ?_⟩
  have e := List.drop_eq_getElem_cons hk
  have hge := h2 ps[k] (by rw [e]; exact List.mem_cons_self)
  rw [e, List.mem_cons] at hd
  rcases hd with hd | hd
  · exact hd.symm
  · have hp : (ps.drop k).Pairwise (· < ·) := h.sublist (List.drop_sublist _ _)
    rw [e] at hp
    have := (List.pairwise_cons.1 hp).1 n hd
    omega

theorem ports_loop (d : Dbs) (g src : Int) (hlen : d.l.length ≤ 140737488355328) (hr : d.right = true) (fl : SM) (ps : List Int) (hps : ps = portsL g src d.l) (hpl : ps.length ≤ 2000) {a0 a19 a26 a33 a45 : AV} {Q : Ex → Tm → Lv → Prop}
    (q : ∀ a10 a26 a33 a45, Q (.exit 0) [(0, a0), (1, .int .u32 g), (2, .int .u32 src), (3, .ptr 0 0 0), (6, .bool false), (7, .bool true), (8, .sl fl (ps.map avI)), (9, .int .i64 ps.length), (10, a10), (19, a19), (26, a26), (33, a33), (45, a45)] [.cells d.av]) :
    @gLoop G [] f8l0 [(0, a0), (1, .int .u32 g), (2, .int .u32 src), (3, .ptr 0 0 0), (6, .bool false), (7, .bool true), (8, .sl fl (ps.map avI)), (9, .int .i64 0), (10, .int .i64 0), (19, a19), (26, a26), (33, a33), (45, a45)] [.cells d.av] ⟨Q⟩ := by
  have hlex := Dbs.right_lex hr
  have hlt : ps.Pairwise (· < ·) := hps ▸ portsL_lt hlex
  have hmem : ∀ n, n ∈ ps ↔ d.wants n g src = true := fun n => by rw [hps, mem_portsL, Dbs.wants_iff hlex]
  have hrng : ∀ n ∈ ps, 0 ≤ n ∧ n ≤ 63 := fun n hn => by
    rw [hps, mem_portsL] at hn
    obtain ⟨p, hp, rfl, _⟩ := hn
    exact Dbs.right_port hr p hp
  refine gLoop_inv (fun j T M => ∃ (n k : Nat) (a26 a33 a45 : AV), j = 64 - n ∧ n ≤ 64 ∧ k ≤ ps.length ∧ M = [.cells d.av] ∧
    T = [(0, a0), (1, .int .u32 g), (2, .int .u32 src), (3, .ptr 0 0 0), (6, .bool false), (7, .bool true), (8, .sl fl (ps.map avI)), (9, .int .i64 k), (10, .int .i64 n), (19, a19), (26, a26), (33, a33), (45, a45)] ∧
    (∀ x ∈ ps.take k, x < n) ∧ (∀ x ∈ ps.drop k, (n : Int) ≤ x)) 64 ?_ ?_
  · exact ⟨0, 0, a26, a33, a45, by simp, by simp, by simp, rfl, rfl, by simp, fun x hx => (hrng x (by simpa using hx)).1⟩
  rintro j T M ⟨n, k, a26, a33, a45, rfl, hn, hk, rfl, rfl, h1, h2⟩
  have hw := fun H L => wants18_c H L d n g src hlen (mono_P hlex _ _) (fun p hp => ⟨by have := (Mb.right_ok (Dbs.right_mem hr p hp).1).len; omega, mono_H (Mb.right_lt (Dbs.right_mem hr p hp).1) _⟩)
  simp only [Dbs.av] at hw
  by_cases hn64 : n < 64
  · have hn64' : (n : Int) < 64 := by omega
    have w2 : IntKind.i64.wrap ((n : Int) + 1) = (n : Int) + 1 := wrap_i (by omega) (by omega)
    have w3 : IntKind.i64.wrap ((k : Int) + 1) = (k : Int) + 1 := wrap_i (by omega) (by omega)
    cases hwn : d.wants n g src with
    | false =>
      simp only [hwn] at hw
      simp [f8l0, f8r7, f8r8, f8r12, Dbs.av, hn64', hw, w2]
      refine gAgain_intro ⟨64 - (n + 1), by omega, n + 1, k, _, _, _, rfl, by omega, hk, rfl, rfl, fun x hx => by have := h1 x hx; omega, fun x hx => ?_⟩
      have hx2 := h2 x hx
      have : x ≠ n := fun e => by
        have := (hmem x).1 (List.mem_of_mem_drop hx)
        rw [e, hwn] at this; cases this
      omega
    | true =>
      simp only [hwn] at hw
      obtain ⟨hkl, hkn⟩ := ports_at hlt h1 h2 ((hmem n).2 hwn)
      have hkl' : ¬ (ps.length : Int) ≤ k := by omega
      have hkl2 : ¬ ps.length ≤ k := by omega
      simp [f8l0, f8r7, f8r8, f8r9, f8r11, f8r12, Dbs.av, hn64', hw, w2, w3, hkl, hkl', hkl2, hkn, avI]
      refine gAgain_intro ⟨64 - (n + 1), by omega, n + 1, k + 1, _, _, _, rfl, by omega, by omega, rfl, rfl, fun x hx => ?_, fun x hx => ?_⟩
      · rw [List.take_succ_eq_append_getElem hkl, List.mem_append] at hx
        rcases hx with hx | hx
        · have := h1 x hx; omega
        · simp only [List.mem_cons, List.not_mem_nil, or_false] at hx; omega
      · have hp : (ps.drop k).Pairwise (· < ·) := hlt.sublist (List.drop_sublist _ _)
        rw [List.drop_eq_getElem_cons hkl] at hp
        have := (List.pairwise_cons.1 hp).1 x hx
        omega
  · have e : n = 64 := by omega
    subst e
    have hke : k = ps.length := by
      apply Classical.byContradiction
      intro hc
      have hkl : k < ps.length := by omega
      have := h2 ps[k] (by rw [List.drop_eq_getElem_cons hkl]; exact List.mem_cons_self)
      have := (hrng ps[k] (List.getElem_mem hkl)).2
      omega
    subst hke
    simp [f8l0, f8r7]
    exact q _ _ _ _

theorem ports_law (d : Dbs) (hd0 : d.wf ∧ d.m.b = false ∧ ∀ p ∈ d.l, p.mb.m.b = false) (g src : Int) : ∃ v L', callW G 8 [.agg d.av, .int .u32 g, .int .u32 src] [] [] = some (v, L') ∧ v = .bool true := by
  have hd := hd0.1
  refine call_of_wp rfl rfl ?_
  have hsh := shown_c
  have hf := fun H L => few_c H L d hd
  have hr := fun H L => right9_c H L d
  simp only [Dbs.av] at hf hr
  by_cases h1 : d.l.length + tot d.l ≤ 2000
  · simp only [h1, decide_true] at hf
    cases h2 : d.right with
    | false =>
      simp only [h2] at hr
      simp [f8r0, f8r1, f8r2, f8r3, Dbs.av, hsh, hf, hr]
    | true =>
      simp only [h2] at hr
      have hok := Dbs.right_ok h2
      have hlen := Dbs.right_len h2
      have hp := fun H L => ports21_c H L d g src (by omega) (fun p hp => ⟨by have := (hok p hp).mb.len; omega, mono_H (Mb.right_lt (Dbs.right_mem h2 p hp).1) _⟩)
      have ht := fun H L => tick9_c H L d hok (by omega) 1000000
      have hmax := Dbs.tick_max h2
      have hpl := portsL_len g src d.l
      simp only [Dbs.av] at hp ht
      simp only [hmax] at ht
      simp [f8r0, f8r1, f8r2, f8r4, f8r5, f8r6, Dbs.av, hsh, hf, hr, hp]
      refine ports_loop d g src (by omega) h2 _ _ rfl (by omega) (fun a10 a26 a33 a45 => ?_)
      simp [f8r13, Dbs.av, ht]
  · simp only [h1, decide_false] at hf
    simp [f8r0, f8r1, f8r2, f8r3, Dbs.av, hsh, hf]

end Go.Ev.S
