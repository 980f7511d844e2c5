/- What DbVersions is asked of, as data. -/
import Derived.Test.YtiplefdmpcjgcaaGreatDbSh
import Derived.Test.YtiplefdmpcjgcaaGreatDbV
namespace Go.Ev.S
open Go.Proofs Go.RowKit

theorem sh_vin {cs : List AV} (h : Sh Tryz.prog 43 cs) : ∃ x : Vin, cs = x.av ∧ x.d.wf ∧ x.d.m.b = false ∧ ∀ p ∈ x.d.l, p.mb.m.b = false := by
  obtain ⟨h1, h2⟩ := sh_struct Tryz.underlying43 h
  have hc : Tryz.prog.cellsOf 43 = 7 := by kernel_rfl
  have c3 : Tryz.prog.cellsOf 3 = 1 := by kernel_rfl
  have c26 : Tryz.prog.cellsOf 26 = 4 := by kernel_rfl
  have c28 : Tryz.prog.cellsOf 28 = 1 := by kernel_rfl
  rw [hc] at h1
  simp only [List.mem_cons, List.not_mem_nil, or_false, forall_eq_or_imp, forall_eq, c3, c26, c28] at h2
  obtain ⟨hd, hp, hg, hs⟩ := h2
  obtain ⟨d, hd, wd⟩ := sh_db hd
  obtain ⟨p, hp, _⟩ := sh_int Tryz.underlying3 hp
  obtain ⟨g, hg, _⟩ := sh_int Tryz.underlying28 hg
  obtain ⟨s, hs, _⟩ := sh_int Tryz.underlying28 hs
  match cs, h1 with
  | [x, y, z, u, v, w, t], _ =>
    simp [Dbs.av] at hd hp hg hs
    obtain ⟨rfl, rfl, rfl, rfl⟩ := hd
    subst hp hg hs
    exact ⟨⟨d, p, g, s⟩, rfl, wd⟩

end Go.Ev.S
