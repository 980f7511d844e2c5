/- The document's example, by computation. -/
import Derived.Test.YtiplefdmpcjgcaaGreatEvG
namespace Go.Ev.S
open Go Go.Ev

def isTrue : Option (AV × Lv) → Bool
  | some (.bool true, _) => true
  | _ => false

theorem isTrue_of {r : Option (AV × Lv)} (h : isTrue r = true) : ∃ L, r = some (.bool true, L) := by
  unfold isTrue at h
  split at h
  · exact ⟨_, rfl⟩
  · cases h

theorem shown_run (L : Lv) : isTrue ((lev G 60).1 9 [] [L] []) = true := by kernel_rfl

/-- The example holds, wherever it is asked. -/
theorem shown_at (L : Lv) : ∃ L', callW G 9 [] [L] [] = some (.bool true, L') := by
  obtain ⟨L', h⟩ := isTrue_of (shown_run L)
  exact ⟨L', lev_callW 60 _ _ _ _ _ h⟩

end Go.Ev.S
