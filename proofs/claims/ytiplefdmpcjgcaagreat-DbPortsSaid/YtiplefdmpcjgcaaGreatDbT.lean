import Derived.Test.YtiplefdmpcjgcaaGreatDbD
import Derived.Test.YtiplefdmpcjgcaaGreatEvG
namespace Go.Ev.S
open Go Go.Ev

def tot (l : List Pl) : Nat := (l.map fun p => p.mb.srcs.length).sum

theorem tot_take (l : List Pl) (i : Nat) (h : i < l.length) : tot (l.take (i + 1)) = tot (l.take i) + l[i].mb.srcs.length := by
  simp only [tot, List.take_succ_eq_append_getElem h, List.map_append, List.sum_append]
  simp

theorem tot_mono (l : List Pl) (i : Nat) : tot (l.take i) ≤ tot l := by
  have := List.take_append_drop i l
  have e : tot l = tot (l.take i) + tot (l.drop i) := by
    simp only [tot, ← List.sum_append, ← List.map_append, this]
  omega

theorem few_c (H : List Lv) (L : Lv) (d : Dbs) (hd : d.wf) : pcall (callW G) H L 10 [.agg d.av] = some (.bool (decide (d.l.length + tot d.l ≤ 2000))) := by
  refine pcall_of_wp rfl rfl (by simp [borrow, depth, Dbs.av]) (by simp [yieldF]) ?_
  simp [f10r0, f10r1, f10r2, Dbs.av]
  refine gLoop_inv (fun k T M => ∃ (i : Nat) (v : AV), k = d.l.length - i ∧ i ≤ d.l.length ∧ M = [.cells d.av] ∧
    T = [(0, .agg d.av), (1, .ptr (H.length + 1) 0 0), (2, .bool false), (3, .int .i64 (d.l.length + tot (d.l.take i) : Nat)), (4, .int .i64 i), (16, v)] ∧
    (0 < i → d.l.length + tot (d.l.take (i - 1)) ≤ 2000)) d.l.length ?_ ?_
  · exact ⟨0, .un, by simp, by simp, rfl, by simp [Dbs.av, tot], by simp⟩
  rintro k T M ⟨i, v, rfl, hi, rfl, rfl, hlt⟩
  have hl := hd.len
  by_cases h1 : i < d.l.length
  · have h2 := (hd.l _ (List.getElem_mem h1)).mb.len
    by_cases h3 : d.l.length + tot (d.l.take i) ≤ 2000
    · have hw : IntKind.i64.wrap (↑d.l.length + ↑(tot (List.take i d.l)) + ↑d.l[i].mb.srcs.length) = ↑d.l.length + ↑(tot (List.take i d.l)) + ↑d.l[i].mb.srcs.length := wrap_i (by omega) (by omega)
      have hw2 : IntKind.i64.wrap (↑i + 1) = ↑i + 1 := wrap_i (by omega) (by omega)
      have h3' : (d.l.length : Int) + (tot (d.l.take i) : Int) ≤ 2000 := by omega
      simp [f10l0, f10r3, f10r4, f10r5, Dbs.av, Pl.av, h1, h3', hw, hw2]
      refine gAgain_intro ⟨d.l.length - (i + 1), by omega, i + 1, .bool true, rfl, by omega, rfl, ?_, ?_⟩
      · simp [tot_take _ _ h1, Dbs.av]; omega
      · simpa using h3
    · have h3' : ¬ (d.l.length : Int) + (tot (d.l.take i) : Int) ≤ 2000 := by omega
      have := tot_mono d.l i
      simp [f10l0, f10r3, f10r6, Dbs.av, h1, h3', freeze, freeV]
      omega
  · have h0 : i = d.l.length := by omega
    subst h0
    simp [f10l0, f10r3, f10r6, Dbs.av, freeze, freeV]
    omega
end Go.Ev.S
