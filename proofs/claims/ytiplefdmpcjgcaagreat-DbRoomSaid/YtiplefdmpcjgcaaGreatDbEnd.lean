/- What the rows' proofs share. -/
import Derived.Test.YtiplefdmpcjgcaaGreatDbSh
import Derived.Test.YtiplefdmpcjgcaaGreatRows
import Derived.WalkKit
import Derived.OpenShut
import Derived.ShutString
namespace Go.Proofs.YtiplefdmpcjgcaaGreat
open Go.ChangeShapes Go.WideShapes Go.ChangeAt Go.RowKit Go.Ev

theorem own : ownKnob Tryz.prog.godebug = none := by kernel_rfl
theorem laidOut : laidOutB Tryz.prog = true := by kernel_rfl

theorem args3 {w : World} {a b c : AV} {u v x : Value} (ha : Rep w noX noX mu0 a u) (hb : Rep w noX noX mu0 b v) (hc : Rep w noX noX mu0 c x) : Args w noX noX mu0 [a, b, c] #[u, v, x] :=
  ⟨rfl, fun i y z ey ez _ => by
    match i, ey, ez with
    | 0, ey, ez => simp at ey ez; subst ey ez; exact ha
    | 1, ey, ez => simp at ey ez; subst ey ez; exact hb
    | 2, ey, ez => simp at ey ez; subst ey ez; exact hc
    | i + 3, ey, ez => simp at ey⟩

theorem arg_int {P : Program} {t : TypeId} {k : IntKind} {a : AV} (hu : P.underlying t = some (.int k)) (h : ArgSh P t a) : ∃ n, a = .int k n ∧ (Lit.int k n).wf = true := by
  unfold ArgSh at h
  rw [hu] at h
  obtain ⟨n, h1, h2⟩ := sh_int hu h
  simp only [List.cons.injEq, and_true] at h1
  exact ⟨n, h1, h2⟩

theorem arg_struct {P : Program} {t : TypeId} {fs : Array Field} {a : AV} (hu : P.underlying t = some (.struct fs)) (h : ArgSh P t a) : ∃ cs, a = .agg cs ∧ Sh P t cs := by
  unfold ArgSh at h
  rw [hu] at h
  exact h

theorem args1 {w : World} {a : AV} {u : Value} (ha : Rep w noX noX mu0 a u) : Args w noX noX mu0 [a] #[u] :=
  ⟨rfl, fun i y z ey ez _ => by
    match i, ey, ez with
    | 0, ey, ez => simp at ey ez; subst ey ez; exact ha
    | i + 1, ey, ez => simp at ey⟩

theorem args2 {w : World} {a b : AV} {u v : Value} (ha : Rep w noX noX mu0 a u) (hb : Rep w noX noX mu0 b v) : Args w noX noX mu0 [a, b] #[u, v] :=
  ⟨rfl, fun i y z ey ez _ => by
    match i, ey, ez with
    | 0, ey, ez => simp at ey ez; subst ey ez; exact ha
    | 1, ey, ez => simp at ey ez; subst ey ez; exact hb
    | i + 2, ey, ez => simp at ey⟩

end Go.Proofs.YtiplefdmpcjgcaaGreat
