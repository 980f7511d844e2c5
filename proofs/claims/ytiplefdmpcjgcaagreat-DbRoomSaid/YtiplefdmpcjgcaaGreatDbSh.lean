/- What came in, as data. -/
import Derived.Test.YtiplefdmpcjgcaaGreatDbA
import Derived.Test.YtiplefdmpcjgcaaGreatEvFrame
namespace Go.Ev
open Go Go.RowKit

section
variable {P : Program} {t : TypeId} {cs : List AV}

theorem sh_int {k : IntKind} (hu : P.underlying t = some (.int k)) (h : Sh P t cs) : ∃ n, cs = [.int k n] ∧ (Lit.int k n).wf = true := by
  cases h with
  | int k' n hu' hw => rw [hu] at hu'; cases hu'; exact ⟨n, rfl, hw⟩
  | bool b hu' => rw [hu] at hu'; cases hu'
  | slice m xs hu' => rw [hu] at hu'; cases hu'
  | struct fs cs hu' => rw [hu] at hu'; cases hu'
  | array n cs hu' => rw [hu] at hu'; cases hu'

theorem sh_bool (hu : P.underlying t = some .bool) (h : Sh P t cs) : ∃ b, cs = [.bool b] := by
  cases h with
  | int k' n hu' hw => rw [hu] at hu'; cases hu'
  | bool b hu' => exact ⟨b, rfl⟩
  | slice m xs hu' => rw [hu] at hu'; cases hu'
  | struct fs cs hu' => rw [hu] at hu'; cases hu'
  | array n cs hu' => rw [hu] at hu'; cases hu'

theorem sh_slice {e : TypeId} (hu : P.underlying t = some (.slice e)) (h : Sh P t cs) : ∃ m xs, cs = [.sl m xs] ∧ m.b = false ∧ (m.z = true → xs = []) ∧ xs.length * P.bytesOf e ≤ reachBytes ∧ ∀ x ∈ xs, Sh P e x := by
  cases h with
  | int k' n hu' hw => rw [hu] at hu'; cases hu'
  | bool b hu' => rw [hu] at hu'; cases hu'
  | slice m xs hu' h1 h2 h3 h4 => rw [hu] at hu'; cases hu'; exact ⟨m, xs, rfl, h1, h2, h3, h4⟩
  | struct fs cs hu' => rw [hu] at hu'; cases hu'
  | array n cs hu' => rw [hu] at hu'; cases hu'

theorem sh_struct {fs : Array Field} (hu : P.underlying t = some (.struct fs)) (h : Sh P t cs) : cs.length = P.cellsOf t ∧ ∀ f ∈ fs.toList, Sh P f.type ((cs.drop f.offset).take (P.cellsOf f.type)) := by
  cases h with
  | int k' n hu' hw => rw [hu] at hu'; cases hu'
  | bool b hu' => rw [hu] at hu'; cases hu'
  | slice m xs hu' => rw [hu] at hu'; cases hu'
  | struct fs cs hu' h1 h2 => rw [hu] at hu'; cases hu'; exact ⟨h1, h2⟩
  | array n cs hu' => rw [hu] at hu'; cases hu'

theorem map_of {α : Type} {f : α → List AV} {R : α → Prop} : ∀ (xs : List (List AV)), (∀ x ∈ xs, ∃ a, x = f a ∧ R a) → ∃ l : List α, xs = l.map f ∧ ∀ a ∈ l, R a
  | [], _ => ⟨[], rfl, fun a h => by simp at h⟩
  | x :: xs, h => by
    obtain ⟨a, rfl, ha⟩ := h x (by simp)
    obtain ⟨l, rfl, hl⟩ := map_of xs (fun y hy => h y (by simp [hy]))
    exact ⟨a :: l, rfl, fun b hb => by
      simp only [List.mem_cons] at hb
      rcases hb with rfl | hb
      · exact ha
      · exact hl b hb⟩

theorem lit_i {n : Int} (h : (Lit.int .i64 n).wf = true) : -9223372036854775808 ≤ n ∧ n ≤ 9223372036854775807 := by
  simp only [Lit.wf, Bool.and_eq_true, decide_eq_true_eq] at h
  simpa [IntKind.min, IntKind.max, IntKind.signed, IntKind.bits] using h

theorem lit_u {n : Int} (h : (Lit.int .u32 n).wf = true) : 0 ≤ n ∧ n ≤ 4294967295 := by
  simp only [Lit.wf, Bool.and_eq_true, decide_eq_true_eq] at h
  simpa [IntKind.min, IntKind.max, IntKind.signed, IntKind.bits] using h

theorem lit_8 {n : Int} (h : (Lit.int .u8 n).wf = true) : 0 ≤ n ∧ n ≤ 255 := by
  simp only [Lit.wf, Bool.and_eq_true, decide_eq_true_eq] at h
  simpa [IntKind.min, IntKind.max, IntKind.signed, IntKind.bits] using h

theorem one_cell {cs : List AV} {i : Nat} {a : AV} (h : (cs.drop i).take 1 = [a]) : cs[i]? = some a := by
  have := congrArg (fun l : List AV => l[0]?) h
  simpa using this
end

namespace S
open Go.Proofs

theorem sh_held {cs : List AV} (h : Sh Tryz.prog 96 cs) : ∃ x : Hd, cs = x.av ∧ x.wf := by
  obtain ⟨h1, h2⟩ := sh_struct Tryz.underlying96 h
  have hc : Tryz.prog.cellsOf 96 = 2 := by kernel_rfl
  have c28 : Tryz.prog.cellsOf 28 = 1 := by kernel_rfl
  have c3 : Tryz.prog.cellsOf 3 = 1 := by kernel_rfl
  rw [hc] at h1
  simp only [List.mem_cons, List.not_mem_nil, or_false, forall_eq_or_imp, forall_eq, c28, c3] at h2
  obtain ⟨ha, hl⟩ := h2
  obtain ⟨a, ha, wa⟩ := sh_int Tryz.underlying28 ha
  obtain ⟨l, hl, wl⟩ := sh_int Tryz.underlying3 hl
  match cs, h1 with
  | [x, y], _ =>
    simp at ha hl
    subst ha hl
    exact ⟨⟨a, l⟩, rfl, ⟨lit_u wa, lit_i wl⟩⟩

theorem sh_memb {cs : List AV} (h : Sh Tryz.prog 49 cs) : ∃ x : Mb, cs = x.av ∧ x.wf ∧ x.m.b = false := by
  obtain ⟨h1, h2⟩ := sh_struct Tryz.underlying49 h
  have hc : Tryz.prog.cellsOf 49 = 4 := by kernel_rfl
  have c28 : Tryz.prog.cellsOf 28 = 1 := by kernel_rfl
  have c3 : Tryz.prog.cellsOf 3 = 1 := by kernel_rfl
  have c4 : Tryz.prog.cellsOf 4 = 1 := by kernel_rfl
  have c47 : Tryz.prog.cellsOf 47 = 1 := by kernel_rfl
  have b96 : Tryz.prog.bytesOf 96 = 16 := by kernel_rfl
  rw [hc] at h1
  simp only [List.mem_cons, List.not_mem_nil, or_false, forall_eq_or_imp, forall_eq, c28, c3, c4, c47] at h2
  obtain ⟨hg, he, hl, hs⟩ := h2
  obtain ⟨g, hg, wg⟩ := sh_int Tryz.underlying28 hg
  obtain ⟨e, he⟩ := sh_bool Tryz.underlying4 he
  obtain ⟨l, hl, wl⟩ := sh_int Tryz.underlying3 hl
  obtain ⟨m, xs, hs, hb, _, hn, hx⟩ := sh_slice Tryz.underlying47 hs
  obtain ⟨srcs, rfl, hsw⟩ := map_of xs (fun x hx' => sh_held (hx x hx'))
  match cs, h1 with
  | [x, y, z, u], _ =>
    simp at hg he hl hs
    subst hg he hl hs
    refine ⟨⟨g, e, l, m, srcs⟩, rfl, ⟨lit_u wg, lit_i wl, by simp only [b96, reachBytes, List.length_map] at hn; simp only; omega, hsw⟩, hb⟩

theorem sh_place {cs : List AV} (h : Sh Tryz.prog 51 cs) : ∃ x : Pl, cs = x.av ∧ (x.wf ∧ x.mb.m.b = false) := by
  obtain ⟨h1, h2⟩ := sh_struct Tryz.underlying51 h
  have hc : Tryz.prog.cellsOf 51 = 7 := by kernel_rfl
  have c3 : Tryz.prog.cellsOf 3 = 1 := by kernel_rfl
  have c49 : Tryz.prog.cellsOf 49 = 4 := by kernel_rfl
  rw [hc] at h1
  simp only [List.mem_cons, List.not_mem_nil, or_false, forall_eq_or_imp, forall_eq, c3, c49] at h2
  obtain ⟨hp, hv1, hv2, hm⟩ := h2
  obtain ⟨p, hp, wp⟩ := sh_int Tryz.underlying3 hp
  obtain ⟨v1, hv1, w1⟩ := sh_int Tryz.underlying3 hv1
  obtain ⟨v2, hv2, w2⟩ := sh_int Tryz.underlying3 hv2
  obtain ⟨m, hm, wm, bm⟩ := sh_memb hm
  match cs, h1 with
  | [x, y, z, u, v, w, s], _ =>
    simp [Mb.av] at hp hv1 hv2 hm
    obtain ⟨rfl, rfl, rfl, rfl⟩ := hm
    subst hp hv1 hv2
    exact ⟨⟨p, v1, v2, m⟩, rfl, ⟨lit_i wp, lit_i w1, lit_i w2, wm⟩, bm⟩

theorem sh_db {cs : List AV} (h : Sh Tryz.prog 26 cs) : ∃ x : Dbs, cs = x.av ∧ x.wf ∧ x.m.b = false ∧ ∀ p ∈ x.l, p.mb.m.b = false := by
  obtain ⟨h1, h2⟩ := sh_struct Tryz.underlying26 h
  have hc : Tryz.prog.cellsOf 26 = 4 := by kernel_rfl
  have c3 : Tryz.prog.cellsOf 3 = 1 := by kernel_rfl
  have c23 : Tryz.prog.cellsOf 23 = 2 := by kernel_rfl
  have c24 : Tryz.prog.cellsOf 24 = 1 := by kernel_rfl
  have b51 : Tryz.prog.bytesOf 51 = 64 := by kernel_rfl
  rw [hc] at h1
  simp only [List.mem_cons, List.not_mem_nil, or_false, forall_eq_or_imp, forall_eq, c3, c23, c24] at h2
  obtain ⟨ht, hl, hs⟩ := h2
  obtain ⟨_, ht2⟩ := sh_struct Tryz.underlying23 ht
  simp only [List.mem_cons, List.not_mem_nil, or_false, forall_eq_or_imp, forall_eq, c3] at ht2
  obtain ⟨hk, hla⟩ := ht2
  obtain ⟨k, hk, wk⟩ := sh_int Tryz.underlying3 hk
  obtain ⟨la, hla, wla⟩ := sh_int Tryz.underlying3 hla
  obtain ⟨li, hl, wli⟩ := sh_int Tryz.underlying3 hl
  obtain ⟨m, xs, hs, hb, _, hn, hx⟩ := sh_slice Tryz.underlying24 hs
  obtain ⟨l, rfl, hlw⟩ := map_of xs (fun x hx' => sh_place (hx x hx'))
  match cs, h1 with
  | [x, y, z, u], _ =>
    simp at hk hla hl hs
    subst hk hla hl hs
    exact ⟨⟨k, la, li, m, l⟩, rfl, ⟨lit_i wk, lit_i wla, lit_i wli, by simp only [b51, reachBytes, List.length_map] at hn; simp only; omega, fun p hp => (hlw p hp).1⟩, hb, fun p hp => (hlw p hp).2⟩

end S
end Go.Ev
