/- append. -/
import Derived.Test.YtiplefdmpcjgcaaGreatEvWriteA
namespace Go.Ev
open Go Go.RowKit

section
variable {P : Program} {md : Nat → Md} {w : World} {O X : Nat → Prop} {μ : Mu} {H : List Lv} {L : Lv}

theorem append_types {t u e f : TypeId} (ht : P.underlying t = some (.slice e)) (hu : P.underlying u = some (.slice f)) (ty : TypeId) (s x : Value) :
    (Builtin.append_ #[t, u] ty #[s, x]).run P w = (Builtin.append_ #[t, t] ty #[s, x]).run P w := by
  cases s <;> simp [Builtin.append_, run_underlying ht, run_underlying hu]

theorem append_none {t e : TypeId} {sz : Nat} (ht : P.underlying t = some (.slice e)) (hs : tsize P e = some sz) (ty : TypeId) (A B : Option Addr) (n c c' : Nat) (hn : n ≤ c) :
    (Builtin.append_ #[t, t] ty #[.slice A n c, .slice B 0 c']).run P w = .ok (.slice A n c) w := by
  have hf : (Builtin.firstCells sz 0 (.slice B 0 c')).run P w = .ok #[] w := by
    cases B with
    | none => simp [Builtin.firstCells]
    | some ad => simp [Builtin.firstCells, loadCells, loadCellsFrom]
  cases A <;> simp [Builtin.append_, run_underlying ht, Builtin.lenOf, run_sizeOf hs, hf, hn, storeCells]

theorem append_room {t e : TypeId} {sz : Nat} (ht : P.underlying t = some (.slice e)) (hs : tsize P e = some sz) (ty : TypeId) (A : Addr) (x : Value) (n c k : Nat) (us : List Value) {w' : World} (hx : (Builtin.lenOf x).run P w = .ok k w)
    (hf : (Builtin.firstCells sz k x).run P w = .ok us.toArray w) (hn : n + k ≤ c) (hst : (storeCells (A.add (n * sz)) us).run P w = .ok () w') :
    (Builtin.append_ #[t, t] ty #[.slice (some A) n c, x]).run P w = .ok (.slice (some A) (n + k) c) w' := by
  simp [Builtin.append_, run_underlying ht, hx, run_sizeOf hs, hf, hn, hst]

/-- Behind an append that made a new row. -/
theorem append_new (m : Mem P md w O X μ H L) {e : TypeId} {cs : List AV} {us : List Value} {rest : Array Value} {L1 : Lv} (hL1 : L1 = L ∨ ∃ b, L1 = L.set b .dead) {sz n c : Nat} (hsz : 0 < sz) (hn : n ≤ c) (hsize : (us.toArray ++ rest).size = c * sz)
    (hv : us.length = cs.length ∧ (∀ (i : Nat) (a : AV) (u : Value), cs[i]? = some a → us[i]? = some u → Rep w O X μ a u) ∧ (∀ (i : Nat) (u : Value), us[i]? = some u → u.oneCell' = true)) :
    ∃ O' X' μ', Ext w O X μ (w.drew.alloc (.cells (us.toArray ++ rest) e)) O' X' μ' ∧ Mem P md (w.drew.alloc (.cells (us.toArray ++ rest) e)) O' X' μ' H (L1 ++ [.cells cs]) ∧
      Rep (w.drew.alloc (.cells (us.toArray ++ rest) e)) O' X' μ' (.own H.length L.length 0 n sz false) (.slice (some ⟨w.heap.size, 0, none⟩) n c) := by
  have m' : Mem P md w.drew O X μ H L :=
    m.step (w' := w.drew) (O' := O) (X' := X) (μ' := μ) ⟨fun _ _ _ h => h, fun _ _ _ h k => by rw [h] at k; (cases k), rfl, rfl, rfl, Nat.le_refl _, fun _ _ _ => rfl, fun _ _ => rfl, fun _ h => h, fun _ h => .inl h, fun _ h => h, fun _ h => .inl h⟩ m.xo m.ol m.dom m.dom2
      (fun b ab e _ => .inl ⟨e, fun _ _ _ => rfl⟩) m.inj
  have hd : Ext w O X μ w.drew O X μ := ⟨fun _ _ _ h => h, fun _ _ _ h k => by rw [h] at k; (cases k), rfl, rfl, rfl, Nat.le_refl _, fun _ _ _ => rfl, fun _ _ => rfl, fun _ h => h, fun _ h => .inl h, fun _ h => h, fun _ h => .inl h⟩
  have hmu := m.dom L.length (Nat.le_refl _)
  have he := ext_alloc (w := w.drew) (O := O) (X := X) (.cells (us.toArray ++ rest) e) hmu
  have hlen : L1.length = L.length := by rcases hL1 with rfl | ⟨b, rfl⟩ <;> simp
  have hget : ∀ (i : Nat) (x : AB), (L1 ++ [.cells cs])[i]? = some x → x.live → i = L.length ∧ x = .cells cs ∨ i ≠ L.length ∧ L[i]? = some x := by
    intro i x ex hl
    rw [List.getElem?_append] at ex
    split at ex
    · rename_i hi
      refine .inr ⟨by omega, ?_⟩
      rcases hL1 with rfl | ⟨b, rfl⟩
      · exact ex
      · rcases getElem?_set_of ex with ⟨_, rfl⟩ | ⟨_, e'⟩
        · exact hl.elim
        · exact e'
    · rename_i hi
      have hi2 : i - L1.length = 0 := by have := (List.getElem?_eq_some_iff.1 ex).1; simpa using this
      rw [hi2] at ex
      simp at ex
      exact .inl ⟨by omega, ex.symm⟩
  refine ⟨_, _, _, hd.trans he, m'.alloc hmu hget (by simp; omega) (by simp; omega) ⟨_, e, heap_alloc_new _ _, by simp; omega, fun i a ea => ?_⟩, ?_⟩
  · have hi : i < us.length := by rw [hv.1]; exact (List.getElem?_eq_some_iff.1 ea).1
    refine ⟨us[i], ?_, hv.2.2 i _ (List.getElem?_eq_getElem hi), ((hv.2.1 i a _ ea (List.getElem?_eq_getElem hi)).ext m.xo hd).ext m.xo he⟩
    rw [Nat.zero_add, Array.getElem?_append_left (by simpa using hi)]
    simp [hi]
  · exact .own _ _ 0 n sz false _ 0 c _ (addMu_same _ _ _ _) hsz hn (fun _ => rfl) (fun q => by cases q) (fun _ => ⟨e, by simp only [World.shape?, heap_alloc_new]; rw [hsize]; simp⟩)

end
end Go.Ev
