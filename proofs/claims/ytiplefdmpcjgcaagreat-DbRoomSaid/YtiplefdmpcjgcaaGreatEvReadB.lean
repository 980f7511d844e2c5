/- Operations that read alone, all of them: one theorem. -/
import Derived.Test.YtiplefdmpcjgcaaGreatEvReadA
namespace Go.Ev
open Go Go.RowKit

section
variable {P : Program} {md : Nat → Md} {w : World} {O X : Nat → Prop} {μ : Mu} {H : List Lv} {L : Lv}

theorem run_checkKey {t : TypeId} {k : IntKind} (ht : P.underlying t = some (.int k)) (e : Bool) (k' : IntKind) (n : Int) : (Instr.checkKey e 10000 t (.int k' n)).run P w = .ok () w := by
  rw [show (10000 : Nat) = 9999 + 1 from rfl, Instr.checkKey]
  simp only [Sem.run_bind, run_underlying ht, Result.andThen_ok]
  rfl

theorem findNow_findK {k : IntKind} {a b : AV} {n : Int} (_ha : a = .int k n) : ∀ (es : List (AV × AV)) (ents : List MapEntry) (j : Nat) (r : Option (Nat × AV)), ents.length = es.length →
    (∀ (i : Nat) (x v : AV) (e : MapEntry), es[i]? = some (x, v) → ents[i]? = some e → Rep w O X μ x e.key ∧ Rep w O X μ v e.val) → findK (.int k n) es j = some r →
    (r = none ∧ (∀ kd, Instr.findNow (.int kd) (.int k n) ents j = some none)) ∨ ∃ i v e, r = some (i, v) ∧ j ≤ i ∧ es[i - j]? = some (e.1, v) ∧ (∃ en, ents[i - j]? = some en ∧ (∀ kd, Instr.findNow (.int kd) (.int k n) ents j = some (some (i, en.val))) ∧ Rep w O X μ v en.val ∧ en.key = .int k n) ∧ e = (e.1, b)
  | [], ents, j, r, hl, _, h => by
    simp only [findK, Option.some.injEq] at h
    subst h
    have : ents = [] := List.eq_nil_of_length_eq_zero hl
    subst this
    exact .inl ⟨rfl, fun _ => rfl⟩
  | (x, v) :: es, ents, j, r, hl, he, h => by
    obtain ⟨en, ents, rfl⟩ := List.exists_cons_of_ne_nil (show ents ≠ [] by rintro rfl; simp at hl)
    simp only [findK] at h
    have h0 := he 0 x v en rfl rfl
    cases x with
    | int k' m =>
      simp only [keyEq] at h
      by_cases hk : k = k'
      · subst hk
        rw [if_pos rfl] at h
        have hkey := asInt_rep h0.1 rfl
        by_cases hnm : n = m
        · subst hnm
          simp only [decide_true, Option.some.injEq] at h
          subst h
          refine .inr ⟨j, v, (.int k n, b), rfl, Nat.le_refl _, by simp, ⟨en, by simp, fun kd => ?_, h0.2, hkey⟩, rfl⟩
          simp [Instr.findNow, hkey, Instr.sameNow]
        · simp only [hnm, decide_false] at h
          rcases findNow_findK (b := b) _ha es ents (j + 1) r (by simpa using hl) (fun i x v e e1 e2 => he (i + 1) x v e (by simpa using e1) (by simpa using e2)) h with ⟨r1, r2⟩ | ⟨i, v', e', q1, q2, q3, ⟨en', q4, q5, q6⟩, q7⟩
          · refine .inl ⟨r1, fun kd => ?_⟩
            simp only [Instr.findNow, hkey, Instr.sameNow, if_true]
            rw [show (n == m) = false from by simpa using hnm]
            exact r2 kd
          · refine .inr ⟨i, v', e', q1, by omega, ?_, ⟨en', ?_, fun kd => ?_, q6⟩, q7⟩
            · rw [show i - j = (i - (j + 1)) + 1 by omega]; simpa using q3
            · rw [show i - j = (i - (j + 1)) + 1 by omega]; simpa using q4
            · simp only [Instr.findNow, hkey, Instr.sameNow, if_true]
              rw [show (n == m) = false from by simpa using hnm]
              exact q5 kd
      · rw [if_neg hk] at h; cases h
    | _ => simp [keyEq] at h

theorem rep_mx : ∀ (xs : List AV) (us : List Value) (x v : AV) (u : Value), Rep w O X μ x u → us.length = xs.length → (∀ (i : Nat) (a : AV) (b : Value), xs[i]? = some a → us[i]? = some b → a ≠ .un → Rep w O X μ a b) → mxV x xs = some v →
    ∃ r, (us.foldlM (m := Sem) Builtin.max2 u).run P w = .ok r w ∧ Rep w O X μ v r
  | [], us, x, v, u, hx, hl, _, h => by
    have : us = [] := List.eq_nil_of_length_eq_zero hl
    subst this
    cases x <;> simp only [mxV, Option.some.injEq, reduceCtorEq] at h
    subst h
    exact ⟨u, by simp, hx⟩
  | y :: xs, us, x, v, u, hx, hl, hr, h => by
    obtain ⟨b, us, rfl⟩ := List.exists_cons_of_ne_nil (show us ≠ [] by rintro rfl; simp at hl)
    cases x <;> cases y <;> simp only [mxV, reduceCtorEq] at h
    rename_i k n k' m
    have hb := asInt_rep (hr 0 _ b rfl rfl (by simp)) rfl
    have hu := asInt_rep hx rfl
    subst hb hu
    obtain ⟨r, h1, h2⟩ := rep_mx xs us _ v (.int k (if m > n then m else n)) (.int _ _) (by simpa using hl) (fun i a b e1 e2 => hr (i + 1) a b (by simpa using e1) (by simpa using e2)) h
    refine ⟨r, ?_, h2⟩
    rw [List.foldlM_cons]
    simp only [Builtin.max2, Sem.run_bind, Sem.run_pure, Result.andThen_ok]
    exact h1

theorem rep_mn : ∀ (xs : List AV) (us : List Value) (x v : AV) (u : Value), Rep w O X μ x u → us.length = xs.length → (∀ (i : Nat) (a : AV) (b : Value), xs[i]? = some a → us[i]? = some b → a ≠ .un → Rep w O X μ a b) → mnV x xs = some v →
    ∃ r, (us.foldlM (m := Sem) Builtin.min2 u).run P w = .ok r w ∧ Rep w O X μ v r
  | [], us, x, v, u, hx, hl, _, h => by
    have : us = [] := List.eq_nil_of_length_eq_zero hl
    subst this
    cases x <;> simp only [mnV, Option.some.injEq, reduceCtorEq] at h
    subst h
    exact ⟨u, by simp, hx⟩
  | y :: xs, us, x, v, u, hx, hl, hr, h => by
    obtain ⟨b, us, rfl⟩ := List.exists_cons_of_ne_nil (show us ≠ [] by rintro rfl; simp at hl)
    cases x <;> cases y <;> simp only [mnV, reduceCtorEq] at h
    rename_i k n k' m
    have hb := asInt_rep (hr 0 _ b rfl rfl (by simp)) rfl
    have hu := asInt_rep hx rfl
    subst hb hu
    obtain ⟨r, h1, h2⟩ := rep_mn xs us _ v (.int k (if m < n then m else n)) (.int _ _) (by simpa using hl) (fun i a b e1 e2 => hr (i + 1) a b (by simpa using e1) (by simpa using e2)) h
    refine ⟨r, ?_, h2⟩
    rw [List.foldlM_cons]
    simp only [Builtin.min2, Sem.run_bind, Sem.run_pure, Result.andThen_ok]
    exact h1

theorem mxV_ne {x v : AV} {xs : List AV} (h : mxV x xs = some v) : x ≠ .un := by
  rintro rfl
  cases xs <;> simp only [mxV, reduceCtorEq] at h
theorem mnV_ne {x v : AV} {xs : List AV} (h : mnV x xs = some v) : x ≠ .un := by
  rintro rfl
  cases xs <;> simp only [mnV, reduceCtorEq] at h

theorem tzeroV_spec {t : TypeId} {z : AV} (h : tzeroV P t = some z) : ∃ u, (P.info? t).bind (·.zero) = some u ∧ ofVal u = some z := Option.bind_eq_some_iff.1 h
theorem tzero_spec {t : TypeId} {z : List AV} (h : tzero P t = some z) : ∃ u, (P.info? t).bind (·.zero) = some u ∧ valCells u = some z := Option.bind_eq_some_iff.1 h

theorem sliceOf_spec {t e : TypeId} (h : sliceOf P t = some e) : P.underlying t = some (.slice e) := by
  unfold sliceOf at h
  split at h
  · rename_i hu; rw [hu]; simpa using h
  · cases h
theorem fieldsOf_spec {t : TypeId} {fs : Array Field} (h : fieldsOf P t = some fs) : P.underlying t = some (.struct fs) := by
  unfold fieldsOf at h
  split at h
  · rename_i hu; rw [hu]; simpa using h
  · cases h
theorem intOfT_spec {t : TypeId} {k : IntKind} (h : intOfT P t = some k) : P.underlying t = some (.int k) := by
  unfold intOfT at h
  split at h
  · rename_i hu; rw [hu]; simpa using h
  · cases h

end
end Go.Ev
