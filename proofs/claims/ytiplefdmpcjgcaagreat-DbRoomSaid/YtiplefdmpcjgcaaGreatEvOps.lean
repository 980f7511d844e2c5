/- Operations that read alone: what the evaluator says of them, the machine does. -/
import Derived.Test.YtiplefdmpcjgcaaGreatEvMem
import Derived.Laws.StructEq
namespace Go.Ev
open Go Go.RowKit

section
variable {P : Program} {md : Nat → Md} {w : World} {O X : Nat → Prop} {μ : Mu} {H : List Lv} {L : Lv}

/-- The temporaries stand for what the evaluator's hold. -/
def SimT (w : World) (O X : Nat → Prop) (μ : Mu) (E : Tm) (a : Act) : Prop := ∀ t, lk E t ≠ .un → Rep w O X μ (lk E t) (a.eval (.tmp t))

theorem rep_ofVal {v : Value} {x : AV} (h : ofVal v = some x) : Rep w O X μ x v ∧ v.oneCell' = true := by
  unfold ofVal at h
  split at h <;> simp only [Option.some.injEq, reduceCtorEq] at h <;> subst h
  · exact ⟨.bool _, rfl⟩
  · exact ⟨.int _ _, rfl⟩
  · exact ⟨.nilp, rfl⟩
  · exact ⟨.sln _ rfl, rfl⟩
  · exact ⟨.nilf, rfl⟩

theorem ofVal_ne {v : Value} {x : AV} (h : ofVal v = some x) : x ≠ .un := by
  unfold ofVal at h
  split at h <;> simp only [Option.some.injEq, reduceCtorEq] at h <;> subst h <;> simp [nilS]

theorem allM_spec {α β : Type} {f : α → Option β} : ∀ {l : List α} {r : List β}, allM f l = some r → r.length = l.length ∧ ∀ (i : Nat) (a : α) (b : β), l[i]? = some a → r[i]? = some b → f a = some b
  | [], r, h => by
    simp only [allM, Option.some.injEq] at h
    subst h
    exact ⟨rfl, fun i a b e => by simp at e⟩
  | a :: l, r, h => by
    simp only [allM] at h
    split at h
    · rename_i b s hb hs
      simp only [Option.some.injEq] at h
      subst h
      obtain ⟨h1, h2⟩ := allM_spec hs
      refine ⟨by simp [h1], fun i x y ex ey => ?_⟩
      cases i with
      | zero => simp at ex ey; subst ex ey; exact hb
      | succ i => exact h2 i x y (by simpa using ex) (by simpa using ey)
    · cases h

theorem rep_od {E : Tm} {a : Act} (hE : SimT w O X μ E a) {x : Operand} {y : Od} (h : compOd x = some y) (hn : y.ev E ≠ .un) : Rep w O X μ (y.ev E) (a.eval x) := by
  cases x with
  | tmp t =>
    simp only [compOd, Option.some.injEq] at h
    subst h
    exact hE t hn
  | const v =>
    cases v with
    | agg cs =>
      simp only [compOd, Option.map_eq_some_iff] at h
      obtain ⟨l, hl, rfl⟩ := h
      obtain ⟨h1, h2⟩ := allM_spec hl
      refine Rep.agg l cs (by simpa using h1.symm) (fun i x u ex eu => (rep_ofVal (h2 i u x (by simpa using eu) ex)).1) (fun i u eu => ?_)
      have hi : i < l.length := by rw [h1]; simpa using (Array.getElem?_eq_some_iff.1 eu).1
      exact (rep_ofVal (w := w) (O := O) (X := X) (μ := μ) (h2 i u l[i] (by simpa using eu) (List.getElem?_eq_getElem hi))).2
    | _ =>
      simp only [compOd, Option.map_eq_some_iff] at h
      obtain ⟨l, hl, rfl⟩ := h
      exact (rep_ofVal hl).1
  | func f =>
    simp only [compOd, Option.some.injEq] at h
    subst h
    exact Rep.fn f [] #[] rfl (fun i a u e => by simp at e)
  | global g => cases h

theorem rep_ods {E : Tm} {a : Act} (hE : SimT w O X μ E a) {xs : List Operand} {ys : List Od} (h : allM compOd xs = some ys) :
    (ys.map (Od.ev E)).length = (xs.map a.eval).length ∧ ∀ (i : Nat) (v : AV) (u : Value), (ys.map (Od.ev E))[i]? = some v → (xs.map a.eval)[i]? = some u → v ≠ .un → Rep w O X μ v u := by
  obtain ⟨h1, h2⟩ := allM_spec h
  refine ⟨by simp [h1], fun i v u ev eu hn => ?_⟩
  simp only [List.getElem?_map, Option.map_eq_some_iff] at ev eu
  obtain ⟨y, hy, rfl⟩ := ev
  obtain ⟨x, hx, rfl⟩ := eu
  exact rep_od hE (h2 i x y hx hy) hn

/-- What laying a value lays. -/
theorem rep_lay {v : AV} {u : Value} {cs : List AV} (r : Rep w O X μ v u) (h : v.lay = some cs) :
    u.cells.size = cs.length ∧ (∀ (i : Nat) (a : AV) (x : Value), cs[i]? = some a → u.cells[i]? = some x → Rep w O X μ a x) ∧ (∀ (i : Nat) (x : Value), u.cells[i]? = some x → x.oneCell' = true) := by
  cases r with
  | agg cs' vs h1 h2 h3 =>
    simp only [AV.lay, Option.some.injEq] at h
    subst h
    exact ⟨h1, h2, h3⟩
  | tup cs' vs h1 h2 => simp [AV.lay] at h
  | bool b =>
    simp only [AV.lay, Option.some.injEq] at h
    subst h
    refine ⟨rfl, fun i a x e1 e2 => ?_, fun i x e => ?_⟩
    · match i, e1, e2 with | 0, e1, e2 => (simp [Value.cells] at e1 e2; subst e1 e2; exact .bool b)
    · match i, e with | 0, e => (simp [Value.cells] at e; subst e; rfl)
  | int k n =>
    simp only [AV.lay, Option.some.injEq] at h
    subst h
    refine ⟨rfl, fun i a x e1 e2 => ?_, fun i x e => ?_⟩
    · match i, e1, e2 with | 0, e1, e2 => (simp [Value.cells] at e1 e2; subst e1 e2; exact .int k n)
    · match i, e with | 0, e => (simp [Value.cells] at e; subst e; rfl)
  | nilp =>
    simp only [AV.lay, Option.some.injEq] at h
    subst h
    refine ⟨rfl, fun i a x e1 e2 => ?_, fun i x e => ?_⟩
    · match i, e1, e2 with | 0, e1, e2 => (simp [Value.cells] at e1 e2; subst e1 e2; exact .nilp)
    · match i, e with | 0, e => (simp [Value.cells] at e; subst e; rfl)
  | nilf =>
    simp only [AV.lay, Option.some.injEq] at h
    subst h
    refine ⟨rfl, fun i a x e1 e2 => ?_, fun i x e => ?_⟩
    · match i, e1, e2 with | 0, e1, e2 => (simp [Value.cells] at e1 e2; subst e1 e2; exact .nilf)
    · match i, e with | 0, e => (simp [Value.cells] at e; subst e; rfl)
  | ptr l b i g o e =>
    simp only [AV.lay, Option.some.injEq] at h
    subst h
    refine ⟨rfl, fun i a x e1 e2 => ?_, fun i x e => ?_⟩
    · match i, e1, e2 with | 0, e1, e2 => (simp [Value.cells] at e1 e2; subst e1 e2; exact .ptr _ _ _ _ _ e)
    · match i, e with | 0, e => (simp [Value.cells] at e; subst e; rfl)
  | mp l b g o e =>
    simp only [AV.lay, Option.some.injEq] at h
    subst h
    refine ⟨rfl, fun i a x e1 e2 => ?_, fun i x e => ?_⟩
    · match i, e1, e2 with | 0, e1, e2 => (simp [Value.cells] at e1 e2; subst e1 e2; exact .mp _ _ _ _ e)
    · match i, e with | 0, e => (simp [Value.cells] at e; subst e; rfl)
  | yl l b g e =>
    simp only [AV.lay, Option.some.injEq] at h
    subst h
    refine ⟨rfl, fun i a x e1 e2 => ?_, fun i x e => ?_⟩
    · match i, e1, e2 with | 0, e1, e2 => (simp [Value.cells] at e1 e2; subst e1 e2; exact .yl _ _ _ e)
    · match i, e with | 0, e => (simp [Value.cells] at e; subst e; rfl)
  | ro b cs' g o U h1 h2 h3 h4 =>
    simp only [AV.lay, Option.some.injEq] at h
    subst h
    refine ⟨rfl, fun i a x e1 e2 => ?_, fun i x e => ?_⟩
    · match i, e1, e2 with | 0, e1, e2 => (simp [Value.cells] at e1 e2; subst e1 e2; exact .ro _ _ _ _ U h1 h2 h3 h4)
    · match i, e with | 0, e => (simp [Value.cells] at e; subst e; rfl)
  | sln m e =>
    simp only [AV.lay, Option.some.injEq] at h
    subst h
    refine ⟨rfl, fun i a x e1 e2 => ?_, fun i x e => ?_⟩
    · match i, e1, e2 with | 0, e1, e2 => (simp [Value.cells] at e1 e2; subst e1 e2; exact .sln _ e)
    · match i, e with | 0, e => (simp [Value.cells] at e; subst e; rfl)
  | sl m xs A sz c U h1 h2 h3 h4 h5 h6 h7 h8 h9 =>
    simp only [AV.lay, Option.some.injEq] at h
    subst h
    refine ⟨rfl, fun i a x e1 e2 => ?_, fun i x e => ?_⟩
    · match i, e1, e2 with | 0, e1, e2 => (simp [Value.cells] at e1 e2; subst e1 e2; exact .sl m xs A sz c U h1 h2 h3 h4 h5 h6 h7 h8 h9)
    · match i, e with | 0, e => (simp [Value.cells] at e; subst e; rfl)
  | own l b i n sz cl g o c A h1 h2 h3 h4 h5 h6 =>
    simp only [AV.lay, Option.some.injEq] at h
    subst h
    refine ⟨rfl, fun i a x e1 e2 => ?_, fun i x e => ?_⟩
    · match i, e1, e2 with | 0, e1, e2 => (simp [Value.cells] at e1 e2; subst e1 e2; exact .own _ _ _ _ _ _ _ _ _ _ h1 h2 h3 h4 h5 h6)
    · match i, e with | 0, e => (simp [Value.cells] at e; subst e; rfl)
  | fn f cap vs h1 h2 =>
    simp only [AV.lay, Option.some.injEq] at h
    subst h
    refine ⟨rfl, fun i a x e1 e2 => ?_, fun i x e => ?_⟩
    · match i, e1, e2 with | 0, e1, e2 => (simp [Value.cells] at e1 e2; subst e1 e2; exact .fn _ _ _ h1 h2)
    · match i, e with | 0, e => (simp [Value.cells] at e; subst e; rfl)

/-- A list of cells that stand for a list of abstract ones. -/
def RepL (w : World) (O X : Nat → Prop) (μ : Mu) (cs : List AV) (vs : Array Value) : Prop :=
  vs.size = cs.length ∧ (∀ (i : Nat) (a : AV) (u : Value), cs[i]? = some a → vs[i]? = some u → Rep w O X μ a u) ∧ (∀ (i : Nat) (u : Value), vs[i]? = some u → u.oneCell' = true)

theorem RepL.agg {cs : List AV} {vs : Array Value} (h : RepL w O X μ cs vs) : Rep w O X μ (.agg cs) (.agg vs) := .agg cs vs h.1 h.2.1 h.2.2

theorem repL_zero {t : TypeId} {z : Value} {l : List AV} (h : valCells z = some l) : RepL w O X μ l z.cells := by
  have _ := t
  obtain ⟨h1, h2⟩ := allM_spec h
  refine ⟨by simpa using h1.symm, fun i x u ex eu => (rep_ofVal (h2 i u x (by simpa using eu) ex)).1, fun i u eu => ?_⟩
  have hi : i < l.length := by rw [h1]; simpa using (Array.getElem?_eq_some_iff.1 eu).1
  exact (rep_ofVal (w := w) (O := O) (X := X) (μ := μ) (h2 i u l[i] (by simpa using eu) (List.getElem?_eq_getElem hi))).2

/-- Cells laid among others. -/
theorem foldl_set (vs : List Value) (off : Nat) : ∀ (k : Nat) (cs : Array Value),
    (vs.zipIdx k).foldl (fun (cs : Array Value) (p : Value × Nat) => cs.setIfInBounds (off + p.2) p.1) cs = (cs.toList.take (off + k) ++ (vs.take (cs.size - (off + k))) ++ cs.toList.drop (off + k + vs.length)).toArray := by
  induction vs with
  | nil => intro k cs; simp
  | cons v vs ih =>
    intro k cs
    rw [List.zipIdx_cons, List.foldl_cons, ih]
    apply Array.ext'
    simp only [Array.toList_setIfInBounds, Array.size_setIfInBounds, List.length_cons]
    by_cases hlt : off + k < cs.size
    · have h1 : cs.size - (off + k) = (cs.size - (off + (k + 1))) + 1 := by omega
      rw [h1, List.take_succ_cons, List.drop_set_of_lt (by omega)]
      have h2 : (cs.toList.set (off + k) v).take (off + (k + 1)) = cs.toList.take (off + k) ++ [v] := by
        rw [← Nat.add_assoc, List.take_succ_eq_append_getElem (by simpa using hlt), List.take_set_of_le (Nat.le_refl _)]
        simp
      rw [h2]
      rw [show off + (k + 1) + vs.length = off + k + (vs.length + 1) by omega]
      simp only [List.append_assoc, List.cons_append, List.nil_append]
    · rw [List.set_eq_of_length_le (by simpa using Nat.le_of_not_lt hlt)]
      have h1 : cs.size - (off + k) = 0 := by omega
      have h2 : cs.size - (off + (k + 1)) = 0 := by omega
      rw [h1, h2]
      simp only [List.take_zero, List.append_nil]
      rw [List.take_of_length_le (by simp; omega), List.take_of_length_le (by simp; omega), List.drop_of_length_le (by simp; omega), List.drop_of_length_le (by simp; omega)]

theorem RepL.put {cs vs : List AV} {A B : Array Value} (hA : RepL w O X μ cs A) (hB : RepL w O X μ vs B) {off : Nat} (h : off + vs.length ≤ cs.length) :
    RepL w O X μ (Ev.put cs off vs) (A.toList.take off ++ B.toList ++ A.toList.drop (off + B.size)).toArray := by
  obtain ⟨a1, a2, a3⟩ := hA
  obtain ⟨b1, b2, b3⟩ := hB
  refine ⟨by simp [Ev.put]; omega, fun i a u ea eu => ?_, fun i u eu => ?_⟩
  · simp only [List.getElem?_toArray] at eu
    simp only [Ev.put] at ea
    by_cases h1 : i < off
    · rw [List.append_assoc, List.getElem?_append_left (by simp; omega), List.getElem?_take_of_lt h1] at ea eu
      exact a2 i a u ea (by simpa using eu)
    · by_cases h2 : i < off + vs.length
      · rw [List.getElem?_append_left (by simp; omega), List.getElem?_append_right (by simp; omega)] at ea eu
        refine b2 (i - off) a u ?_ ?_
        · rw [← ea]; congr 1; simp; omega
        · rw [← Array.getElem?_toList, ← eu]; congr 1; simp; omega
      · rw [List.getElem?_append_right (by simp; omega), List.getElem?_drop] at ea eu
        refine a2 i a u ?_ ?_
        · rw [← ea]; congr 1; simp; omega
        · rw [← Array.getElem?_toList, ← eu]; congr 1; simp; omega
  · simp only [List.getElem?_toArray] at eu
    have hu : u ∈ A.toList.take off ++ B.toList ++ A.toList.drop (off + B.size) := List.mem_of_getElem? eu
    simp only [List.mem_append] at hu
    rcases hu with (hu | hu) | hu
    · obtain ⟨j, hj⟩ := List.getElem?_of_mem (List.mem_of_mem_take hu); exact a3 j u (by simpa using hj)
    · obtain ⟨j, hj⟩ := List.getElem?_of_mem hu; exact b3 j u (by simpa using hj)
    · obtain ⟨j, hj⟩ := List.getElem?_of_mem (List.mem_of_mem_drop hu); exact a3 j u (by simpa using hj)

theorem rep_fill {E : Tm} {a : Act} (hE : SimT w O X μ E a) (pl : Nat → Option (Nat × Nat)) : ∀ {ps : List (Nat × Operand)} {qs : List (Nat × Nat × Od)} {cs out : List AV} {A : Array Value},
    compParts pl ps = some qs → RepL w O X μ cs A → fill E cs qs = some out → ∃ B, Instr.fill pl A (ps.map fun (i, x) => (i, a.eval x)) = some B ∧ RepL w O X μ out B
  | [], qs, cs, out, A, h, hA, hf => by
    simp only [compParts, Option.some.injEq] at h
    subst h
    simp only [fill, Option.some.injEq] at hf
    subst hf
    exact ⟨A, rfl, hA⟩
  | (i, x) :: ps, qs, cs, out, A, h, hA, hf => by
    simp only [compParts] at h
    split at h
    · rename_i o s y l h1 h2 h3
      simp only [Option.some.injEq] at h
      subst h
      simp only [fill] at hf
      split at hf
      · rename_i vs hvs
        split at hf
        · rename_i hc
          have hn : y.ev E ≠ .un := by intro e; rw [e] at hvs; cases hvs
          obtain ⟨k1, k2, k3⟩ := rep_lay (rep_od hE h2 hn) hvs
          have hput := hA.put (B := (a.eval x).cells) ⟨k1, k2, k3⟩ (off := o) (by omega)
          obtain ⟨B, hB, hrB⟩ := rep_fill hE pl h3 hput hf
          refine ⟨B, ?_, hrB⟩
          rw [← hB]
          simp only [List.map_cons, Instr.fill, h1]
          rw [if_neg (by rw [Bool.or_eq_true]; simp only [ne_eq, decide_eq_true_eq, gt_iff_lt]; have := hA.1; omega)]
          congr 1
          have := foldl_set (a.eval x).cells.toList o 0 A
          simp only [Nat.add_zero, Array.length_toList] at this
          rw [List.take_of_length_le (l := (a.eval x).cells.toList) (by have := hA.1; simp; omega)] at this
          rw [← this, ← Array.foldl_toList]
          simp
        · cases hf
      · cases hf
    · cases h

end
end Go.Ev
