/- slices.Insert: what its copies come to. -/
import Derived.Test.YtiplefdmpcjgcaaGreatEvInsB
namespace Go.Ev
open Go Go.RowKit

section
variable {P : Program} {md : Nat → Md} {w : World} {O X : Nat → Prop} {μ : Mu} {H : List Lv} {L : Lv}

/-- Values that stand for cells. -/
def RL (w : World) (O X : Nat → Prop) (μ : Mu) (cs : List AV) (us : List Value) : Prop :=
  us.length = cs.length ∧ (∀ (i : Nat) (a : AV) (u : Value), cs[i]? = some a → us[i]? = some u → Rep w O X μ a u) ∧ (∀ (i : Nat) (u : Value), us[i]? = some u → u.oneCell' = true)

theorem RL.take {cs : List AV} {us : List Value} (h : RL w O X μ cs us) (k : Nat) : RL w O X μ (cs.take k) (us.take k) := by
  obtain ⟨h1, h2, h3⟩ := h
  refine ⟨by simp [h1], fun i a u e1 e2 => ?_, fun i u e => ?_⟩
  · rw [List.getElem?_take] at e1 e2
    split at e1
    · rename_i hi
      rw [if_pos hi] at e2
      exact h2 i a u e1 e2
    · cases e1
  · rw [List.getElem?_take] at e
    split at e
    · exact h3 i u e
    · cases e

theorem RL.drop {cs : List AV} {us : List Value} (h : RL w O X μ cs us) (k : Nat) : RL w O X μ (cs.drop k) (us.drop k) := by
  obtain ⟨h1, h2, h3⟩ := h
  refine ⟨by simp [h1], fun i a u e1 e2 => ?_, fun i u e => ?_⟩
  · rw [List.getElem?_drop] at e1 e2
    exact h2 _ a u e1 e2
  · rw [List.getElem?_drop] at e
    exact h3 _ u e

theorem RL.append {cs ds : List AV} {us vs : List Value} (h : RL w O X μ cs us) (k : RL w O X μ ds vs) : RL w O X μ (cs ++ ds) (us ++ vs) := by
  obtain ⟨h1, h2, h3⟩ := h
  obtain ⟨k1, k2, k3⟩ := k
  refine ⟨by simp [h1, k1], fun i a u e1 e2 => ?_, fun i u e => ?_⟩
  · by_cases hi : i < us.length
    · rw [List.getElem?_append_left (by omega)] at e1 e2
      exact h2 i a u e1 e2
    · rw [List.getElem?_append_right (by omega)] at e1 e2
      rw [h1] at e2
      exact k2 _ a u e1 e2
  · by_cases hi : i < us.length
    · rw [List.getElem?_append_left hi] at e
      exact h3 i u e
    · rw [List.getElem?_append_right (by omega)] at e
      exact k3 _ u e

theorem RL.mem {cs : List AV} {us : List Value} (h : RL w O X μ cs us) : ∀ u ∈ us, u.oneCell' = true := fun u hu => by
  obtain ⟨i, hi⟩ := List.getElem?_of_mem hu
  exact h.2.2 i u hi

theorem RL.drew {cs : List AV} {us : List Value} (m : Mem P md w O X μ H L) (h : RL w O X μ cs us) : RL w.drew O X μ cs us :=
  ⟨h.1, fun i a u e1 e2 => (h.2.1 i a u e1 e2).ext m.xo ext_drew, h.2.2⟩

/-- What is read of a row. -/
theorem row_firsts {g o sz k : Nat} {arr : Array Value} {ty : TypeId} {fr : Nat × Nat} (us : List Value) (hg : w.heap[g]? = some (.cells arr ty fr)) (hus : us.length = k * sz) (h : ∀ (j : Nat) (u : Value), us[j]? = some u → arr[o + j]? = some u) (ns sc : Nat) :
    (Builtin.firstCells sz k (.slice (some ⟨g, o, none⟩) ns sc)).run P w = .ok us.toArray w :=
  run_firstCells_some w sz k ⟨g, o, none⟩ ns sc us hus (fun j u e => by
    rw [Addr.add_lit]
    simp only [World.cell?, hg]
    exact h j u e)

/-- In place. -/
theorem ins_room (m : Mem P md w O X μ H L) {t t' e : TypeId} {sz : Nat} (ht : P.underlying t = some (.slice e)) (hs : tsize P e = some sz) (hsz : 0 < sz) {b n k q c c2 g o : Nat} {cs ys : List AV} {arr : Array Value} {ty : TypeId} {os us : List Value} {A2 : Addr}
    (hb : L[b]? = some (.cells cs)) (hcs : cs.length = n * sz) (hk : k < n) (hq : 0 < q) (hroom : n + q ≤ c) (hmu : μ H.length b = some (g, o)) (hg : w.heap[g]? = some (.cells arr ty (0, 0))) (hcap : o + c * sz = arr.size)
    (hos : RL w O X μ cs os) (harr : (arr.toList.drop o).take (n * sz) = os) (hus : RL w O X μ ys us) (hql : ys.length = q * sz) (hA2 : A2.block ≠ g) (hrd : ∀ (j : Nat) (u : Value), us[j]? = some u → w.cell? (A2.add j) = some u) :
    ∃ W1 W2 μ', (∀ ty dc sc, (Builtin.copy_ #[t, t'] ty #[.slice (some ⟨g, o + (k + q) * sz, none⟩) (n + q - (k + q)) dc, .slice (some ⟨g, o + k * sz, none⟩) (n + q - k) sc]).run P w.drew = .ok (goInt ((n - k : Nat) : Int)) W1) ∧
      (∀ ty dc, (Builtin.copy_ #[t, t'] ty #[.slice (some ⟨g, o + k * sz, none⟩) (n + q - k) dc, .slice (some A2) q c2]).run P W1 = .ok (goInt (q : Int)) W2) ∧
      Ext w O X μ W2 O X μ' ∧ Mem P md W2 O X μ' H (L.set b .dead ++ [.cells (cs.take (k * sz) ++ ys ++ cs.drop (k * sz))]) ∧
      Rep W2 O X μ' (.own H.length L.length 0 (n + q) sz false) (.slice (some ⟨g, o, none⟩) (n + q) c) := by
  have hosl : os.length = n * sz := by rw [hos.1, hcs]
  have husl : us.length = q * sz := by rw [hus.1, hql]
  have hkn : k * sz + (n - k) * sz = n * sz := by rw [← Nat.add_mul]; congr 1; omega
  have hnq : n * sz + q * sz ≤ c * sz := by rw [← Nat.add_mul]; exact Nat.mul_le_mul_right _ hroom
  have hkq : (k + q) * sz = k * sz + q * sz := Nat.add_mul _ _ _
  have hal : (os.take (k * sz)).length = k * sz := by simp; omega
  have hdl : (os.drop (k * sz)).length = (n - k) * sz := by simp; omega
  have hsplit : arr.toList = (arr.toList.take o ++ os.take (k * sz)) ++ (os.drop (k * sz) ++ arr.toList.drop (o + n * sz)) := by
    rw [List.append_assoc, ← List.append_assoc (os.take (k * sz)), List.take_append_drop, ← harr]
    conv => lhs; rw [← List.take_append_drop o arr.toList, ← List.take_append_drop (n * sz) (arr.toList.drop o), List.drop_drop]
  obtain ⟨Pa, hPa⟩ : ∃ Pa, Pa = arr.toList.take o ++ os.take (k * sz) := ⟨_, rfl⟩
  obtain ⟨Xs, hXs⟩ : ∃ Xs, Xs = os.drop (k * sz) ++ arr.toList.drop (o + n * sz) := ⟨_, rfl⟩
  rw [← hPa, ← hXs] at hsplit
  have hPal : Pa.length = o + k * sz := by rw [hPa]; simp; omega
  have hXl : us.length + (os.drop (k * sz)).length ≤ Xs.length := by
    rw [hXs, husl]; simp; omega
  obtain ⟨d, hd⟩ : ∃ d, d = os.drop (k * sz) := ⟨_, rfl⟩
  rw [← hd] at hdl hXl
  obtain ⟨l1, hl1⟩ : ∃ l1, l1 = (Pa ++ Xs).take (Pa.length + us.length) ++ d ++ (Pa ++ Xs).drop (Pa.length + us.length + d.length) := ⟨_, rfl⟩
  have hl1s : l1.length = arr.size := by
    have : arr.toList.length = Pa.length + Xs.length := by rw [hsplit]; simp
    rw [hl1]; simp at this ⊢; omega
  have hgd : w.drew.heap[g]? = some (.cells arr ty (0, 0)) := hg
  have hst1 := run_storeCells_at P g (o + (k + q) * sz) ty d 0 arr w.drew hgd (by omega) (fun v hv => hos.mem v (by rw [hd] at hv; exact List.mem_of_mem_drop hv))
  simp only [Nat.add_zero] at hst1
  rw [show arr.toList.take (o + (k + q) * sz) ++ d ++ arr.toList.drop (o + (k + q) * sz + d.length) = l1 by rw [hl1, ← hsplit, hPal, husl, hkq, ← Nat.add_assoc]] at hst1
  have hrow : ∀ (j : Nat) (u : Value), d[j]? = some u → arr[o + k * sz + j]? = some u := fun j u e => by
    rw [← Array.getElem?_toList, hsplit, List.getElem?_append_right (by rw [hPal]; omega), hPal, show o + k * sz + j - (o + k * sz) = j by omega, hXs, ← hd,
      List.getElem?_append_left (List.getElem?_eq_some_iff.1 e).1]
    exact e
  have hg1 : (w.drew.setRow g l1.toArray).heap[g]? = some (.cells l1.toArray ty (0, 0)) := setRow_heap _ _ _ _ _ _ hgd
  have hst2 := run_storeCells_at P g (o + k * sz) ty us 0 l1.toArray (w.drew.setRow g l1.toArray) hg1 (by simp; omega) hus.mem
  simp only [Nat.add_zero] at hst2
  rw [setRow_setRow] at hst2
  have hput := put_twice Pa Xs us d hXl
  rw [← hl1] at hput
  rw [← hPal, hput] at hst2
  have hus' : RL w.drew O X μ (cs.take (k * sz) ++ ys ++ cs.drop (k * sz)) (os.take (k * sz) ++ us ++ d) := by
    rw [hd]
    exact (((hos.take _).append hus).append (hos.drop _)).drew m
  have hlen' : (os.take (k * sz) ++ us ++ d).length = n * sz + q * sz := by simp only [List.length_append, hal, husl, hdl]; omega
  obtain ⟨μ', r1, r2, r3⟩ := row_here (P := P) m.drew hb hmu hgd hus' (by rw [← hus'.1, hlen']; omega) hsz hroom hcap
  have hfin : arr.toList.take o ++ (os.take (k * sz) ++ us ++ d) ++ arr.toList.drop (o + (os.take (k * sz) ++ us ++ d).length) = Pa ++ us ++ d ++ Xs.drop (us.length + d.length) := by
    have e1 : arr.toList.drop (o + (os.take (k * sz) ++ us ++ d).length) = Xs.drop (us.length + d.length) := by
      rw [hlen', hsplit, show o + (n * sz + q * sz) = Pa.length + (us.length + d.length) by rw [hPal, husl, hdl]; omega, List.drop_append]
      simp
    rw [e1, hPa]
    simp
  rw [hfin] at r1 r2 r3
  refine ⟨w.drew.setRow g l1.toArray, _, μ', fun ty dc sc => ?_, fun ty dc => ?_, ext_drew.trans r1, r2, r3⟩
  · refine run_copy_row ht hs ty _ _ _ _ _ _ (n - k) d (by omega) (row_firsts d hgd hdl hrow _ _) hst1
  · refine run_copy_row ht hs ty _ _ _ _ _ _ q us (by omega) (run_firstCells_some _ sz q A2 q c2 us husl (fun j u e => ?_)) ?_
    · have := hrd j u e
      have hne : (A2.add j).block ≠ g := by unfold Addr.add; split <;> exact hA2
      rw [cell_setRow_other _ _ _ _ hne]
      exact this
    · rw [hPal] at hst2
      exact hst2

end
end Go.Ev
