/- Room. -/
import Derived.Test.YtiplefdmpcjgcaaGreatDbJ
import Derived.Test.YtiplefdmpcjgcaaGreatDbV
namespace Go.Ev.S
open Go Go.Ev

def thereL (port g : Int) (l : List Pl) : Bool := l.any fun p => decide (p.port = port) && decide (p.mb.g = g)

theorem thereL_snoc (port g : Int) (l : List Pl) (i : Nat) (h : i < l.length) : thereL port g (l.take (i + 1)) = (thereL port g (l.take i) || (decide (l[i].port = port) && decide (l[i].mb.g = g))) := by
  simp only [thereL, List.take_succ_eq_append_getElem h, List.any_append, List.any_cons, List.any_nil, Bool.or_false]

theorem room_loop (d : Dbs) (port g : Int) (hlen : d.l.length ≤ 100000) (c1 : AB) {a0 a6 a7 a8 a11 a13 a38 a44 a90 a92 : AV} {Q : Ex → Tm → Lv → Prop}
    (q : ∀ a10 a44, Q (.exit 0) [(0, a0), (1, .int .i64 port), (2, .int .u32 g), (3, .ptr 0 0 0), (6, a6), (7, a7), (8, a8), (9, .bool (thereL port g d.l)), (10, a10), (11, a11), (13, a13), (38, a38), (44, a44), (90, a90), (92, a92)] [.cells d.av, c1]) :
    @gLoop G [] f5l0 [(0, a0), (1, .int .i64 port), (2, .int .u32 g), (3, .ptr 0 0 0), (6, a6), (7, a7), (8, a8), (9, .bool false), (10, .int .i64 0), (11, a11), (13, a13), (38, a38), (44, a44), (90, a90), (92, a92)] [.cells d.av, c1] ⟨Q⟩ := by
  refine gLoop_inv (fun k T M => ∃ (i : Nat) (a44 : AV), k = d.l.length - i ∧ i ≤ d.l.length ∧ M = [.cells d.av, c1] ∧
    T = [(0, a0), (1, .int .i64 port), (2, .int .u32 g), (3, .ptr 0 0 0), (6, a6), (7, a7), (8, a8), (9, .bool (thereL port g (d.l.take i))), (10, .int .i64 i), (11, a11), (13, a13), (38, a38), (44, a44), (90, a90), (92, a92)]) d.l.length ?_ ?_
  · exact ⟨0, a44, by simp, by simp, rfl, by simp [thereL]⟩
  rintro k T M ⟨i, a44, rfl, hi, rfl, rfl⟩
  by_cases h1 : i < d.l.length
  · have hw2 : IntKind.i64.wrap ((i : Int) + 1) = (i : Int) + 1 := wrap_i (by omega) (by omega)
    have hsn := thereL_snoc port g d.l i h1
    cases ht : thereL port g (d.l.take i) with
    | true =>
      simp [f5l0, f5r7, f5r8, f5r9, Dbs.av, Pl.av, h1, hw2, ht]
      exact gAgain_intro ⟨d.l.length - (i + 1), by omega, i + 1, .bool true, rfl, by omega, rfl, by rw [hsn, ht]; rfl⟩
    | false =>
      by_cases hp : d.l[i].port = port
      · simp [f5l0, f5r7, f5r8, f5r9, Dbs.av, Pl.av, h1, hw2, ht, hp]
        exact gAgain_intro ⟨d.l.length - (i + 1), by omega, i + 1, .bool true, rfl, by omega, rfl, by rw [hsn, ht]; simp [hp]⟩
      · simp [f5l0, f5r7, f5r8, f5r9, Dbs.av, Pl.av, h1, hw2, ht, hp]
        exact gAgain_intro ⟨d.l.length - (i + 1), by omega, i + 1, .bool true, rfl, by omega, rfl, by rw [hsn, ht]; simp [hp]⟩
  · have h0 : i = d.l.length := by omega
    subst h0
    simp [f5l0, f5r7, Dbs.av]
    exact q _ _

theorem thereL_iff {port g : Int} {l : List Pl} : thereL port g l = true ↔ ∃ p ∈ l, p.port = port ∧ p.mb.g = g := by
  simp [thereL]

theorem hasP_false {l : List Pl} {port g : Int} (h : ¬ thereL port g l = true) : hasP l port g = false := by
  cases hh : hasP l port g with
  | false => rfl
  | true =>
    exfalso
    have hlt := hasP_lt hh
    simp only [hasP, List.getElem?_eq_getElem hlt, decide_eq_true_eq, cmpP_zero] at hh
    exact h (thereL_iff.2 ⟨_, List.getElem_mem hlt, hh.1, hh.2⟩)

theorem Dbs.right_limit {d : Dbs} (h : d.right = true) : (d.l.length : Int) ≤ d.limit := by
  simp only [Dbs.right, Bool.and_eq_true, decide_eq_true_eq] at h
  omega

theorem room_law (d : Dbs) (hx : d.wf ∧ d.m.b = false ∧ ∀ p ∈ d.l, p.mb.m.b = false) (port g : Int) : ∃ v L', callW G 5 [.agg d.av, .int .i64 port, .int .u32 g] [] [] = some (v, L') ∧ v = .bool true := by
  obtain ⟨hd, hdm, hdb⟩ := hx
  refine call_of_wp rfl rfl ?_
  have hsh := shown_c
  have hf := fun H L => few_c H L d hd
  have hr := fun H L => right9_c H L d
  have h8 := fun H L => right8_c H L ⟨g, false, 0, ⟨true, false, true⟩, []⟩
  simp [Mb.av] at h8
  simp only [Dbs.av] at hf hr
  by_cases h1 : d.l.length + tot d.l ≤ 2000
  · simp only [h1, decide_true] at hf
    cases h2 : d.right with
    | false =>
      simp only [h2] at hr
      simp [f5r0, f5r1, f5r2, f5r3, f5r4, Dbs.av, hsh, hf, hr]
    | true =>
      simp only [h2] at hr
      by_cases hp0 : port < 0
      · simp [f5r0, f5r1, f5r2, f5r3, f5r4, Dbs.av, hsh, hf, hr, hp0]
      · by_cases hp1 : 63 < port
        · simp [f5r0, f5r1, f5r2, f5r3, f5r4, Dbs.av, hsh, hf, hr, hp0, hp1]
        · have hlex := Dbs.right_lex h2
          have hlen := Dbs.right_len h2
          have hlm := Dbs.right_limit h2
          have hple : posP d.l port g ≤ d.l.length := posC_le _ _
          have hll : ∀ q : Pl, (d.l.insertIdx (posP d.l port g) q).length = d.l.length + 1 := List.length_insertIdx_of_le_length hple
          have w1 : IntKind.i64.wrap ((d.l.length : Int) + 1) = (d.l.length : Int) + 1 := wrap_i (by omega) (by omega)
          have w3 : IntKind.i64.wrap (d.l.length : Int) = (d.l.length : Int) := wrap_i (by omega) (by omega)
          cases h3 : Mb.right ⟨g, false, 0, ⟨true, false, true⟩, []⟩ with
          | false =>
            simp only [h3] at h8
            simp [f5r0, f5r1, f5r2, f5r3, f5r4, Dbs.av, hsh, hf, hr, hp0, hp1, nilS, h8]
          | true =>
            simp only [h3] at h8
            simp [f5r0, f5r1, f5r2, f5r3, f5r5, f5r6, Dbs.av, hsh, hf, hr, hp0, hp1, nilS, h8]
            refine room_loop d port g (by omega) _ (fun a10 a44 => ?_)
            by_cases ht : thereL port g d.l = true
            · obtain ⟨p, hp, hpp, hpg⟩ := thereL_iff.1 ht
              obtain ⟨i, hi, rfl⟩ := List.getElem_of_mem hp
              obtain ⟨hpos, hhas⟩ := hasP_at hlex hi hpp hpg
              have hv2 := fun H L => hear14_v2 H L d port g (by omega) (by omega) i hi hpos hhas (by omega) (by have := (Mb.right_ok (Dbs.right_mem h2 _ (List.getElem_mem hi)).1).len; omega) (mono_P hlex _ _) hpp hpg hdb
              simp only [Dbs.av, nilS] at hv2
              simp [f5r10, Dbs.av, ht]
              refine gO_pex (hv2 _ _) (fun fl hfl => ?_)
              have hl1 : ¬ d.limit < d.l.length := by omega
              simp [f5r11, hl1, f5r13, f5r15]
            · have hhas := hasP_false ht
              have ht' : thereL port g d.l = false := by simpa using ht
              by_cases hlim : d.limit ≤ d.l.length
              · have hfull := fun H L => hear14_full H L d port g (by omega) (by omega) (posP d.l port g) hple rfl hhas (by omega) hlim (mono_P hlex _ _) hdm
                simp only [Dbs.av, nilS] at hfull
                have hl1 : ¬ d.limit < d.l.length := by omega
                simp [f5r10, Dbs.av, ht', hfull, f5r11, hl1, f5r13, f5r14, hlim, w1]
                exact w3.symm
              · have hnew := fun H L => hear14_new H L d port g (by omega) (by omega) (posP d.l port g) hple rfl hhas (by omega) hlim (mono_P hlex _ _) hdb
                simp only [Dbs.av, nilS] at hnew
                simp [f5r10, Dbs.av, ht']
                refine gO_pex (hnew _ _) (fun fl hfl => ?_)
                have hl1 : ¬ d.limit < (d.l.length : Int) + 1 := by omega
                simp [f5r11, hll, hl1, f5r13, f5r14, hlim, w1]
  · simp only [h1, decide_false] at hf
    simp [f5r0, f5r1, f5r2, f5r3, f5r4, Dbs.av, hsh, hf]

end Go.Ev.S
