/- Operations that write memory: append, copy, clear; all of them. -/
import Derived.Test.YtiplefdmpcjgcaaGreatEvWrite
namespace Go.Ev
open Go Go.RowKit

section
variable {P : Program} {md : Nat → Md} {w : World} {O X : Nat → Prop} {μ : Mu} {H : List Lv} {L : Lv}

/-- What the first cells of a slice are. -/
theorem first_cells {A : Option Addr} {n c sz k : Nat} {cs : List AV} (hlen : cs.length = k * sz) (hA : A = none → k = 0) (h : ∀ ad, A = some ad → CellsAt w O X μ cs ad) :
    ∃ us : List Value, (Builtin.firstCells sz k (.slice A n c)).run P w = .ok us.toArray w ∧ us.length = cs.length ∧ (∀ (i : Nat) (a : AV) (u : Value), cs[i]? = some a → us[i]? = some u → Rep w O X μ a u) ∧
      (∀ (i : Nat) (u : Value), us[i]? = some u → u.oneCell' = true) ∧ (∀ ad, A = some ad → ∀ (j : Nat) (u : Value), us[j]? = some u → w.cell? (ad.add j) = some u) := by
  cases A with
  | none =>
    have hk := hA rfl
    subst hk
    have hcs : cs = [] := List.eq_nil_of_length_eq_zero (by simpa using hlen)
    subst hcs
    exact ⟨[], by simp [Builtin.firstCells], rfl, fun i a u e => by simp at e, fun i u e => by simp at e, fun ad e => by cases e⟩
  | some ad =>
    obtain ⟨us, k1, k2, k3, k4⟩ := (h ad rfl).values
    refine ⟨us, run_firstCells_some w sz k ad n c us (by rw [k1, hlen]) k2, k1, k4, fun i u e => k3 u (List.mem_of_getElem? e), fun ad' e => ?_⟩
    cases e
    exact k2

theorem flatten_take {sz : Nat} : ∀ (xs : List (List AV)) (k : Nat), (∀ x ∈ xs, x.length = sz) → (xs.take k).flatten = xs.flatten.take (k * sz)
  | [], k, _ => by simp
  | x :: xs, 0, _ => by simp
  | x :: xs, k + 1, h => by
    rw [List.take_succ_cons, List.flatten_cons, List.flatten_cons, flatten_take xs k (fun y hy => h y (by simp [hy])), show (k + 1) * sz = x.length + k * sz by rw [h x (by simp), Nat.add_mul]; omega, List.take_append]
    rw [List.take_of_length_le (by omega : x.length ≤ x.length + k * sz)]
    congr 2
    omega

/-- What a slice is, for whoever reads all of it. -/
theorem Mem.slice (m : Mem P md w O X μ H L) {v : AV} {u : Value} {xs : List (List AV)} (r : Rep w O X μ v u) (h : Ev.elems H L v = some xs) {sz : Nat} (hsz : 0 < sz) (hx : ∀ x ∈ xs, x.length = sz) :
    ∃ (A : Option Addr) (c : Nat), u = .slice A xs.length c ∧ xs.length ≤ c ∧ (A = none → c = 0) ∧ ∀ ad, A = some ad → CellsAt w O X μ xs.flatten ad := by
  obtain ⟨A, c, h1, h2, h3, h4⟩ := m.elems r h
  exact ⟨A, c, h1, h2, h3, h4 sz hsz hx⟩

/-- copy(d, s). -/
theorem write_copy (m : Mem P md w O X μ H L) {t e : TypeId} {ts : List TypeId} {sz : Nat} (ht : P.underlying t = some (.slice e)) (hs : tsize P e = some sz) (hpos : 0 < sz) {ty : TypeId} {dv sv : Value} {d s v : AV} {L' : Lv} {ys : List (List AV)}
    (hd : Rep w O X μ d dv) (hsv : Rep w O X μ s sv) (hy : Ev.elems H L s = some ys)
    (h : copyV H L sz d ys = some (v, L')) :
    ∃ w' u, (Builtin.copy_ (t :: ts).toArray ty #[dv, sv]).run P w = .ok u w' ∧ Rep w' O X μ v u ∧ Ext w O X μ w' O X μ ∧ Mem P md w' O X μ H L' := by
  obtain ⟨B, c', hB, hB2, hB3, hB4⟩ := m.elems hsv hy
  unfold copyV at h
  cases d with
  | sl q zs =>
    cases zs with
    | cons z zs => cases h
    | nil =>
      simp only [Option.some.injEq, Prod.mk.injEq] at h
      obtain ⟨rfl, rfl⟩ := h
      have hdv : ∃ A c, dv = .slice A 0 c := by
        cases hd with
        | sln => exact ⟨none, 0, rfl⟩
        | sl _ _ A sz' c => exact ⟨some A, c, rfl⟩
      obtain ⟨A, c, rfl⟩ := hdv
      refine ⟨w, .int .i64 0, ?_, .int _ _, Ext.refl .., m⟩
      subst hB
      have hf : (Builtin.firstCells sz 0 (.slice B ys.length c')).run P w = .ok #[] w := by
        cases B with
        | none => simp [Builtin.firstCells]
        | some ad => simp [Builtin.firstCells, loadCells, loadCellsFrom]
      cases A with
      | none => simp [Builtin.copy_, run_underlying ht, Builtin.lenOf, run_sizeOf hs, hf, goInt]
      | some A => simp [Builtin.copy_, run_underlying ht, Builtin.lenOf, run_sizeOf hs, hf, goInt, storeCells]
  | own l b i n z cl =>
    simp only at h
    cases hb : getB H L l b with
    | none => rw [hb] at h; cases h
    | some ab =>
      rw [hb] at h
      cases ab with
      | dead => cases h
      | map es => cases h
      | loop _ _ _ _ => cases h
      | cells cs =>
        simp only at h
        split at h
        · rename_i hc
          obtain ⟨rfl, hfit, hall⟩ := hc
          have hall' := get_of_all hall
          simp only [Option.map_eq_some_iff, Prod.mk.injEq] at h
          obtain ⟨L1, hset, rfl, rfl⟩ := h
          obtain ⟨rfl, hbl, rfl⟩ := setB_spec hset
          rw [getB_cur] at hb
          have hcells := hB4 z hpos hall'
          have htl : (ys.take (min ys.length n)).flatten.length = min ys.length n * z := by
            rw [length_flatten (sz := z) _ (fun x hx => hall' x (List.mem_of_mem_take hx)), List.length_take]
            congr 1
            omega
          obtain ⟨us, k1, k2, k3, k4, _⟩ := first_cells (P := P) (A := B) (n := ys.length) (c := c') (sz := z) (k := min ys.length n) (cs := (ys.take (min ys.length n)).flatten) htl (fun q => by have := hB3 q; omega) (fun ad q => by
            rw [flatten_take ys _ hall']
            exact (hcells ad q).take _)
          cases hd with
          | own _ _ _ _ _ _ g o c A hmu hsp hn hA hcl hsh =>
            obtain ⟨g', o', q1, hXg, arr, ty', q2, q3, q4⟩ := m.cur b _ hb AB.cells_live
            rw [hmu] at q1
            simp only [Option.some.injEq, Prod.mk.injEq] at q1
            obtain ⟨rfl, rfl⟩ := q1
            have hmul : min ys.length n * z ≤ n * z := Nat.mul_le_mul_right _ (Nat.min_le_right _ _)
            obtain ⟨s1, s2, s3⟩ := store_row (P := P) m (i := i) (us := us) hb hmu q2 q3 q4 ⟨k2, k3, k4⟩ (by omega)
            refine ⟨_, .int .i64 (min ys.length n : Nat), ?_, .int _ _, s2, s3⟩
            by_cases hc0 : c = 0
            · have hn0 : n = 0 := by omega
              subst hn0
              have hus : us = [] := List.eq_nil_of_length_eq_zero (by rw [k2, htl]; simp)
              subst hus
              have hw : w.setRow g (arr.toList.take (o + i) ++ ([] : List Value) ++ arr.toList.drop (o + i + ([] : List Value).length)).toArray = w := by
                simp only [storeCells, Sem.run_pure, Result.ok.injEq, true_and] at s1
                exact s1.symm
              rw [hw]
              subst hB
              simp only [Nat.min_zero] at k1
              simp [Builtin.copy_, run_underlying ht, Builtin.lenOf, run_sizeOf hs, k1, goInt, storeCells]
            · rw [hA hc0]
              subst hB
              simp [Builtin.copy_, run_underlying ht, Builtin.lenOf, run_sizeOf hs, k1, goInt, s1, Nat.min_def] at k1 ⊢
        · cases h
  | _ => cases h

/-- clear(x). -/
theorem write_clear (m : Mem P md w O X μ H L) {t e : TypeId} {sz : Nat} (ht : P.underlying t = some (.slice e)) (hs : tsize P e = some sz) (hpos : 0 < sz) {ty : TypeId} {xv : Value} {x v : AV} {L' : Lv} {z : List AV} {zv : Value} (hz1 : (P.info? e).bind (·.zero) = some zv) (hz2 : valCells zv = some z)
    (hx : Rep w O X μ x xv)
    (h : clearV H L sz z x = some (v, L')) :
    ∃ w' u, (Builtin.clear_ #[t] ty #[xv]).run P w = .ok u w' ∧ Rep w' O X μ v u ∧ Ext w O X μ w' O X μ ∧ Mem P md w' O X μ H L' := by
  have tupr : ∀ w' : World, Rep w' O X μ (.tup []) (.tuple #[]) := fun w' => .tup [] #[] rfl (fun i a u e => by simp at e)
  unfold clearV at h
  cases x with
  | sl q zs =>
    cases zs with
    | cons z zs => cases h
    | nil =>
      simp only [Option.some.injEq, Prod.mk.injEq] at h
      obtain ⟨rfl, rfl⟩ := h
      refine ⟨w, .tuple #[], ?_, tupr w, Ext.refl .., m⟩
      cases hx with
      | sln => simp [Builtin.clear_, run_underlying ht]
      | sl _ _ A sz' c => simp [Builtin.clear_, run_underlying ht]
  | own l b i n s cl =>
    simp only at h
    cases hx with
    | own _ _ _ _ _ _ g o c A hmu hsp hn hA hcl hsh =>
      split at h
      · rename_i hn0
        subst hn0
        simp only [Option.some.injEq, Prod.mk.injEq] at h
        obtain ⟨rfl, rfl⟩ := h
        exact ⟨w, .tuple #[], by simp [Builtin.clear_, run_underlying ht], tupr w, Ext.refl .., m⟩
      · rename_i hn0
        cases hb : getB H L l b with
        | none => rw [hb] at h; cases h
        | some ab =>
          rw [hb] at h
          cases ab with
          | dead => cases h
          | map es => cases h
          | loop _ _ _ _ => cases h
          | cells cs =>
            simp only at h
            split at h
            · rename_i hc
              obtain ⟨rfl, hzl, hfit⟩ := hc
              simp only [Option.map_eq_some_iff, Prod.mk.injEq] at h
              obtain ⟨L1, hset, rfl, rfl⟩ := h
              obtain ⟨rfl, hbl, rfl⟩ := setB_spec hset
              rw [getB_cur] at hb
              obtain ⟨g', o', q1, hXg, arr, ty', q2, q3, q4⟩ := m.cur b _ hb AB.cells_live
              rw [hmu] at q1
              simp only [Option.some.injEq, Prod.mk.injEq] at q1
              obtain ⟨rfl, rfl⟩ := q1
              have hrz := repL_rep (repL_zero (w := w) (O := O) (X := X) (μ := μ) (t := e) hz2) n (by omega)
              have hrs : zv.cells.size = z.length := (repL_zero (w := w) (O := O) (X := X) (μ := μ) (t := e) hz2).1
              have hzc : Builtin.zeroCells zv.cells n = (Array.range (n * z.length)).map (zv.cells[· % zv.cells.size]!) := by
                unfold Builtin.zeroCells
                rw [hrs]
              obtain ⟨s1, s2, s3⟩ := store_row (P := P) m (i := i) (vs := rep n z) (us := (Builtin.zeroCells zv.cells n).toList) hb hmu q2 q3 q4 ⟨by rw [Array.length_toList, hzc]; exact hrz.1, fun i a u e1 e2 => hrz.2.1 i a u e1 (by rw [← hzc, ← Array.getElem?_toList]; exact e2), fun i u e2 => hrz.2.2 i u (by rw [← hzc, ← Array.getElem?_toList]; exact e2)⟩ (by rw [length_rep, hzl]; omega)
              refine ⟨_, .tuple #[], ?_, tupr _, s2, s3⟩
              rw [hA (by omega)]
              obtain ⟨n', rfl⟩ : ∃ n', n = n' + 1 := ⟨n - 1, by omega⟩
              simp only [Builtin.clear_, List.getElem?_toArray, List.getElem?_cons_zero, Sem.run_bind, run_underlying ht, Result.andThen_ok, run_zeroValue hz1, s1]
              rfl
            · cases h
  | _ => cases h

end
end Go.Ev
