/- slices.Insert, as the evaluator takes it; what it needs of memory. -/
import Derived.Test.YtiplefdmpcjgcaaGreatEvCode
import Derived.Lib.AppendZerosOnto
namespace Go.Ev
open Go Go.RowKit

def exIns (sz by_ : Nat) : CallT := fun _ vs H L => match vs with
  | [s, .int .i64 i, .own l2 b2 i2 m z2 cl2] => match elems H L s, elems H L (.own l2 b2 i2 m z2 cl2) with
    | some xs, some ys =>
      if z2 = sz ∧ 0 < m ∧ 0 ≤ i ∧ xs.length + ys.length ≤ 9223372036854775807 ∧ (xs.length + ys.length) * by_ ≤ 140737488355328 ∧ ys.all (fun c => decide (c.length = sz)) then
        if i.toNat = xs.length then appV H L sz s xs ys
        else match s with
          | .own l b 0 n z false => match getB H L l b with
            | some (.cells cs) =>
              if l = H.length ∧ z = sz ∧ i.toNat < n ∧ cs.length = n * sz ∧ ¬ (l2 = l ∧ b2 = b) then
                some (.own H.length L.length 0 (n + ys.length) sz false, L.set b .dead ++ [.cells (cs.take (i.toNat * sz) ++ ys.flatten ++ cs.drop (i.toNat * sz))])
              else none
            | _ => none
          | _ => none
      else none
    | _, _ => none
  | _ => none

theorem put_twice {α : Type} (a X us d : List α) (h : us.length + d.length ≤ X.length) :
    (((a ++ X).take (a.length + us.length) ++ d ++ (a ++ X).drop (a.length + us.length + d.length)).take a.length ++ us ++ ((a ++ X).take (a.length + us.length) ++ d ++ (a ++ X).drop (a.length + us.length + d.length)).drop (a.length + us.length)) = a ++ us ++ d ++ X.drop (us.length + d.length) := by
  have e1 : (a ++ X).take (a.length + us.length) = a ++ X.take us.length := by rw [List.take_append, List.take_of_length_le (by omega)]; simp
  have e2 : (a ++ X).drop (a.length + us.length + d.length) = X.drop (us.length + d.length) := by
    rw [Nat.add_assoc, List.drop_append]; simp
  rw [e1, e2]
  have hl : (X.take us.length).length = us.length := by simp; omega
  have e3 : (a ++ X.take us.length ++ d ++ X.drop (us.length + d.length)).take a.length = a := by
    rw [List.append_assoc, List.append_assoc]; exact List.take_left' rfl
  have e4 : (a ++ X.take us.length ++ d ++ X.drop (us.length + d.length)).drop (a.length + us.length) = d ++ X.drop (us.length + d.length) := by
    rw [List.append_assoc]; exact List.drop_left' (by simp [hl])
  rw [e3, e4]
  simp

section
variable {P : Program} {md : Nat → Md} {w : World} {O X : Nat → Prop} {μ : Mu} {H : List Lv} {L : Lv}

theorem setRow_setRow (w : World) (g : Nat) (a b : Array Value) : (w.setRow g a).setRow g b = w.setRow g b := by
  unfold World.setRow
  congr 1
  simp only
  apply Array.ext
  · simp
  · intro i h1 h2
    simp only [Array.getElem_modify]
    split
    · have hi : i < w.heap.size := by simpa using h2
      generalize w.heap[i] = ob
      cases ob <;> rfl
    · rfl

theorem ext_drew : Ext w O X μ w.drew O X μ :=
  ⟨fun _ _ _ h => h, fun _ _ _ h k => by rw [h] at k; (cases k), rfl, rfl, rfl, Nat.le_refl _, fun _ _ _ => rfl, fun _ _ => rfl, fun _ h => h, fun _ h => .inl h, fun _ h => h, fun _ h => .inl h⟩

theorem Mem.drew (m : Mem P md w O X μ H L) : Mem P md w.drew O X μ H L :=
  m.step ext_drew m.xo m.ol m.dom m.dom2 (fun b ab e _ => .inl ⟨e, fun _ _ _ => rfl⟩) m.inj

/-- What is known of a block's cells is let go. -/
theorem Mem.forget (m : Mem P md w O X μ H L) {b : Nat} {cs : List AV} (hb : L[b]? = some (.cells cs)) : Mem P md w O X μ H (L.set b (.cells [])) := by
  have hbl := (List.getElem?_eq_some_iff.1 hb).1
  obtain ⟨g, o, h1, h2, arr, ty, h3, h4, h5⟩ := m.cur b _ hb AB.cells_live
  have hget : ∀ (j : Nat) (x : AB), (L.set b (.cells []))[j]? = some x → x.live → (j = b ∧ x = .cells []) ∨ (j ≠ b ∧ L[j]? = some x) := fun j x e _ => by
    rcases getElem?_set_of e with ⟨h, k⟩ | h
    · exact .inl ⟨h, k⟩
    · exact .inr h
  refine m.step (Ext.refl ..) m.xo m.ol (fun j hj => m.dom j (by simpa using hj)) m.dom2 (fun j x e hl => ?_) (fun j k x y p q r e1 l1 e2 l2 k1 k2 => ?_)
  · rcases hget j x e hl with ⟨rfl, rfl⟩ | ⟨h6, h7⟩
    · exact .inr ⟨g, o, h1, h2, arr, ty, h3, by simp; omega, fun i a e => by simp at e⟩
    · exact .inl ⟨h7, fun _ _ _ => rfl⟩
  · have f : ∀ (j : Nat) (x : AB), (L.set b (.cells []))[j]? = some x → x.live → ∃ x', L[j]? = some x' ∧ x'.live := fun j x e hl => by
      rcases hget j x e hl with ⟨rfl, _⟩ | ⟨_, h7⟩
      · exact ⟨_, hb, AB.cells_live⟩
      · exact ⟨_, h7, hl⟩
    obtain ⟨x', e1', l1'⟩ := f j x e1 l1
    obtain ⟨y', e2', l2'⟩ := f k y e2 l2
    exact m.inj j k x' y' p q r e1' l1' e2' l2' k1 k2

/-- A block's row gets other cells, from its first one on. -/
theorem row_here (m : Mem P md w O X μ H L) {b g o : Nat} {cs zs : List AV} {us : List Value} {arr : Array Value} {ty : TypeId} (hb : L[b]? = some (.cells cs)) (hmu : μ H.length b = some (g, o))
    (hg : w.heap[g]? = some (.cells arr ty (0, 0)))
    (hv : us.length = zs.length ∧ (∀ (i : Nat) (a : AV) (u : Value), zs[i]? = some a → us[i]? = some u → Rep w O X μ a u) ∧ (∀ (i : Nat) (u : Value), us[i]? = some u → u.oneCell' = true))
    (hfit : o + zs.length ≤ arr.size) {sz n c : Nat} (hsz : 0 < sz) (hn : n ≤ c) (hcap : o + c * sz = arr.size) :
    ∃ μ', Ext w O X μ (w.setRow g (arr.toList.take o ++ us ++ arr.toList.drop (o + us.length)).toArray) O X μ' ∧
      Mem P md (w.setRow g (arr.toList.take o ++ us ++ arr.toList.drop (o + us.length)).toArray) O X μ' H (L.set b .dead ++ [.cells zs]) ∧
      Rep (w.setRow g (arr.toList.take o ++ us ++ arr.toList.drop (o + us.length)).toArray) O X μ' (.own H.length L.length 0 n sz false) (.slice (some ⟨g, o, none⟩) n c) := by
  have hbl := (List.getElem?_eq_some_iff.1 hb).1
  have m1 := m.forget hb
  have hb1 : (L.set b (.cells []))[b]? = some (.cells []) := by rw [List.getElem?_set_self hbl]
  obtain ⟨_, μ', h1, h2, h3⟩ := append_here (P := P) m1 (i := 0) (vs := zs) (zs := []) (us := us) hb1 hmu hg (fun j a e => by simp at e) hv rfl (by simp) (by simpa using hfit) hsz hn (by simpa using hcap)
  simp only [List.length_nil, Nat.add_zero, List.set_set, List.nil_append, List.length_set] at h1 h2 h3
  exact ⟨μ', h1, h2, h3⟩

theorem run_copy_row {t t' e : TypeId} {sz : Nat} (ht : P.underlying t = some (.slice e)) (hs : tsize P e = some sz) (ty : TypeId) (A B : Addr) (nd dc ns sc k : Nat) (us : List Value) {w' : World} (hk : k = min ns nd)
    (hf : (Builtin.firstCells sz k (.slice (some B) ns sc)).run P w = .ok us.toArray w) (hst : (storeCells A us).run P w = .ok () w') :
    (Builtin.copy_ #[t, t'] ty #[.slice (some A) nd dc, .slice (some B) ns sc]).run P w = .ok (goInt k) w' := by
  subst hk
  simp only [Nat.min_def] at hf ⊢
  simp [Builtin.copy_, run_underlying ht, Builtin.lenOf, run_sizeOf hs, hf, goInt, hst, Nat.min_def]

theorem append_ty (ts : Array TypeId) (ty ty' : TypeId) (vs : Array Value) : Builtin.append_ ts ty vs = Builtin.append_ ts ty' vs := rfl

theorem alloc_setRow (w : World) (a b : Array Value) (t : TypeId) : (w.alloc (.cells a t)).setRow w.heap.size b = w.alloc (.cells b t) := by
  unfold World.alloc World.setRow
  congr 1
  simp only
  apply Array.ext
  · simp
  · intro i h1 h2
    simp only [Array.getElem_modify]
    split
    · rename_i h; subst h; simp
    · rename_i h
      simp only [Array.size_modify, Array.size_push] at h1
      rw [Array.getElem_push_lt (by omega), Array.getElem_push_lt (by omega)]

end
end Go.Ev
