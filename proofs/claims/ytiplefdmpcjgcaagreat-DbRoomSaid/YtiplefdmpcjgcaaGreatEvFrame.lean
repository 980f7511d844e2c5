/- From the evaluator's answer to a row: arguments, the call, memory behind it. -/
import Derived.Test.YtiplefdmpcjgcaaGreatEvArg
import Derived.Test.YtiplefdmpcjgcaaGreatEvG
import Derived.Below
import Derived.ProofKit
import Derived.ChangeOld
import Derived.Carry
namespace Go.Ev
open Go Go.RowKit

/-- What an argument looks like. -/
def ArgSh (P : Program) (t : TypeId) (a : AV) : Prop :=
  match P.underlying t with
  | some (.struct _) | some (.array _ _) => ∃ cs, a = .agg cs ∧ Sh P t cs
  | _ => Sh P t [a]

def mu0 : Mu := fun _ _ => none

theorem Cells.agg {w : World} {μ : Mu} {cs : List AV} {vs : Array Value} (h : Cells w μ cs vs.toList) : Rep w noX noX μ (.agg cs) (.agg vs) := by
  refine .agg cs vs (by simpa using h.1.symm) (fun i a u ea eu => (h.2 i a u ea (by simpa using eu)).1) (fun i u eu => ?_)
  have hi : i < cs.length := by rw [h.1]; simpa using (Array.getElem?_eq_some_iff.1 eu).1
  exact (h.2 i cs[i] u (List.getElem?_eq_getElem hi) (by simpa using eu)).2.2

theorem read_arg {H : Type} {enc : TypeId × Value → H} {P : Program} {W : World} {sp : Nat → Bool} {held : Bool} {μ : Mu} {d : Nat} {t : TypeId} {v : Value} {x : DataW H} {ps : List MemPlace} {r : Reach} {base b0 : Nat}
    (hok : okT P d t = true) (hv : Value.okWide P W r base t v) (h : DataW.Trod enc P W b0 sp held t v x ps) (hwt : ∀ n ∈ x.weights P t, n ≤ reachBytes) : ∃ a, a ≠ .un ∧ Rep W noX noX μ a v ∧ ArgSh P t a := by
  obtain ⟨fuel, hf⟩ := h
  obtain ⟨cs, h1, h2⟩ := read_any (μ := μ) fuel d t _ _ hok hf hwt
  have flat : (∀ cs, v ≠ .agg cs) → Sh P t cs → ∃ a, a ≠ .un ∧ Rep W noX noX μ a v ∧ Sh P t [a] := by
    intro hn hs
    have hc : v.cells.toList = [v] := by
      cases v <;> first | rfl | exact absurd rfl (hn _)
    rw [hc] at h1
    match cs, h1 with
    | [a], h1 =>
      have hr := (h1.2 0 a v rfl rfl).1
      exact ⟨a, fun e => by rw [e] at hr; exact hr.not_un, hr, hs⟩
  unfold ArgSh
  unfold Value.okWide at hv
  cases hu : P.underlying t with
  | none => rw [hu] at hv; cases d <;> simp [okT, hu] at hok
  | some ty =>
    rw [hu] at hv
    cases ty with
    | struct fs =>
      obtain ⟨vs, rfl, _, _⟩ := hv
      exact ⟨.agg cs, (fun e => by cases e), h1.agg, cs, rfl, h2⟩
    | array n e =>
      obtain ⟨vs, rfl, _, _⟩ := hv
      exact ⟨.agg cs, (fun e => by cases e), h1.agg, cs, rfl, h2⟩
    | bool => exact flat (fun cs e => by subst e; simp [Cell.okWide, Cell.ok, hu] at hv) h2
    | int k => exact flat (fun cs e => by subst e; simp [Cell.okWide, Cell.ok, hu] at hv) h2
    | slice e => exact flat (fun cs e => by subst e; simp [Cell.okWide, Cell.ok, hu] at hv) h2
    | _ => cases d <;> simp [okT, hu] at hok

theorem mem0 {P : Program} {md : Nat → Md} (W : World) : Mem P md W noX noX mu0 [] [] where
  xo _ h := h.elim
  ol _ h := h.elim
  dom _ _ := rfl
  dom2 _ _ _ := rfl
  cur b ab e := by simp at e
  inj b b' x x' g o o' e := by simp at e
  old l b ab h := by simp at h

namespace S

/-- What the evaluator says of a law, the program does. -/
theorem calls_of_law {f : Nat} {xs : List AV} {vals : Array Value} {W : World} (h : ∃ v L', callW G f xs [] [] = some (v, L') ∧ v = .bool true) (hy : f ≠ yieldF) (ha : Args W noX noX mu0 xs vals) :
    Calls Go.Proofs.Tryz.prog f vals W fun e W' => e = .returned (.bool true) ∧ Below W.heap.size W W' := by
  obtain ⟨v, L', h1, rfl⟩ := h
  refine ((sound f xs [] [] _ L' h1 hy).2 W noX noX mu0 vals (mem0 W) ha).mono fun e W' he => ?_
  obtain ⟨u, rfl, O', X', μ', k1, _, k3⟩ := he
  have hr := k3 (by simp)
  cases hr
  exact ⟨rfl, k1.os, k1.tape, k1.output, k1.size, fun k hk => k1.block k hk (fun q => q)⟩

end S
end Go.Ev
