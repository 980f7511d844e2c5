/- Memory: what a level's blocks stand for; what is read off it. -/
import Derived.Test.YtiplefdmpcjgcaaGreatEvRep
namespace Go.Ev
open Go Go.RowKit

/-- What an abstract block stands for. -/
def BR (P : Program) (md : Nat → Md) (w : World) (O X : Nat → Prop) (μ : Mu) : AB → Nat → Nat → Prop
  | .cells cs, g, o => ∃ (arr : Array Value) (ty : TypeId), w.heap[g]? = some (.cells arr ty (0, 0)) ∧ o + cs.length ≤ arr.size ∧
      ∀ (i : Nat) (a : AV), cs[i]? = some a → ∃ u : Value, arr[o + i]? = some u ∧ u.oneCell' = true ∧ Rep w O X μ a u
  | .map es, g, _ => ∃ (ents : Array MapEntry) (clock : Nat), w.heap[g]? = some (.map ents clock) ∧ ents.size = es.length ∧
      ∀ (i : Nat) (k v : AV) (e : MapEntry), es[i]? = some (k, v) → ents[i]? = some e → Rep w O X μ k e.key ∧ Rep w O X μ v e.val
  | .loop ps T asg bd, g, o => o = 0 ∧ ∃ rec : Loop, w.heap[g]? = some (.loop rec) ∧ rec.state = .ready ∧ rec.params.toList = ps ∧
      ∃ nt, compC P md nt rec.assign = some asg ∧ compC P md nt rec.body = some bd ∧ nt ≤ rec.tmps.size ∧ (∀ t ∈ ps, t < nt) ∧ (noR asg && noR bd) = true ∧ rec.pending = none ∧ ∀ t, lk T t ≠ .un → Rep w O X μ (lk T t) (rec.tmps.getD t undef)
  | .dead, _, _ => True

def AB.live : AB → Prop
  | .dead => False
  | _ => True

structure Mem (P : Program) (md : Nat → Md) (w : World) (O X : Nat → Prop) (μ : Mu) (H : List Lv) (L : Lv) : Prop where
  xo : ∀ g, X g → O g
  ol : ∀ g, O g → g < w.heap.size
  dom : ∀ b, L.length ≤ b → μ H.length b = none
  dom2 : ∀ l b, H.length < l → μ l b = none
  cur : ∀ (b : Nat) (ab : AB), L[b]? = some ab → ab.live → ∃ g o, μ H.length b = some (g, o) ∧ X g ∧ BR P md w O X μ ab g o
  inj : ∀ (b b' : Nat) (x x' : AB) (g o o' : Nat), L[b]? = some x → x.live → L[b']? = some x' → x'.live → μ H.length b = some (g, o) → μ H.length b' = some (g, o') → b = b'
  old : ∀ (l b : Nat) (ab : AB), l < H.length → getB H L l b = some ab → ab.live → ∃ g o, μ l b = some (g, o) ∧ ¬ X g ∧ BR P md w O X μ ab g o

theorem AB.cells_live {cs : List AV} : (AB.cells cs).live := trivial
theorem AB.map_live {es : List (AV × AV)} : (AB.map es).live := trivial

section
variable {P : Program} {md : Nat → Md} {w : World} {O X : Nat → Prop} {μ : Mu} {H : List Lv} {L : Lv}

/-- A live block, of whatever level, is somewhere. -/
theorem Mem.at (m : Mem P md w O X μ H L) {l b : Nat} {ab : AB} (h : getB H L l b = some ab) (hl : ab.live) : ∃ g o, μ l b = some (g, o) ∧ BR P md w O X μ ab g o := by
  by_cases e : l = H.length
  · subst e
    simp only [getB, if_true] at h
    obtain ⟨g, o, h1, _, h3⟩ := m.cur b ab h hl
    exact ⟨g, o, h1, h3⟩
  · by_cases e2 : l < H.length
    · obtain ⟨g, o, h1, _, h3⟩ := m.old l b ab e2 h hl
      exact ⟨g, o, h1, h3⟩
    · simp only [getB, if_neg e, if_neg e2] at h
      cases h

/-- What a list of cells stands for, from an address on. -/
def CellsAt (w : World) (O X : Nat → Prop) (μ : Mu) (cs : List AV) (A : Addr) : Prop :=
  ∀ (i : Nat) (a : AV), cs[i]? = some a → A.spot = none ∧ ∃ u : Value, w.cell? ⟨A.block, A.off + i, none⟩ = some u ∧ u.oneCell' = true ∧ Rep w O X μ a u

theorem CellsAt.drop {cs : List AV} {A : Addr} (h : CellsAt w O X μ cs A) (k : Nat) : CellsAt w O X μ (cs.drop k) ⟨A.block, A.off + k, none⟩ := by
  intro i a e
  rw [List.getElem?_drop] at e
  obtain ⟨h1, u, h2, h3⟩ := h (k + i) a e
  exact ⟨rfl, u, by rw [← h2]; congr 2; exact Nat.add_assoc _ _ _, h3⟩

theorem CellsAt.take {cs : List AV} {A : Addr} (h : CellsAt w O X μ cs A) (k : Nat) : CellsAt w O X μ (cs.take k) A := by
  intro i a e
  rw [List.getElem?_take] at e
  split at e
  · exact h i a e
  · cases e

theorem BR.cells {cs : List AV} {g o : Nat} (h : BR P md w O X μ (.cells cs) g o) : CellsAt w O X μ cs ⟨g, o, none⟩ := by
  obtain ⟨arr, ty, h1, _, h2⟩ := h
  intro i a e
  obtain ⟨u, h3, h4, h5⟩ := h2 i a e
  exact ⟨rfl, u, by simp [World.cell?, h1, h3], h4, h5⟩

/-- The cells behind an address. -/
theorem Mem.rdC (m : Mem P md w O X μ H L) {v : AV} {u : Value} {cs : List AV} (r : Rep w O X μ v u) (h : rdC H L v = some cs) : ∃ A : Addr, u = .pointer (some A) ∧ CellsAt w O X μ cs A := by
  cases r with
  | ptr l b i g o e =>
    simp only [Ev.rdC] at h
    cases hb : getB H L l b with
    | none => rw [hb] at h; cases h
    | some ab =>
      rw [hb] at h
      cases ab with
      | cells cs' =>
        simp only at h
        split at h
        · simp only [Option.some.injEq] at h
          subst h
          obtain ⟨g', o', h1, h2⟩ := m.at hb AB.cells_live
          rw [e] at h1
          simp only [Option.some.injEq, Prod.mk.injEq] at h1
          obtain ⟨rfl, rfl⟩ := h1
          exact ⟨_, rfl, (BR.cells h2).drop i⟩
        · cases h
      | map es => cases h
      | loop _ _ _ _ => cases h
      | dead => cases h
  | ro b cs' g o U hb hc hr _ =>
    simp only [Ev.rdC, Option.some.injEq] at h
    subst h
    exact ⟨_, rfl, fun i a e => ⟨rfl, U i, (hc i a e).1, (hc i a e).2, hr i a e⟩⟩
  | _ => simp [Ev.rdC] at h

theorem length_flatten {sz : Nat} : ∀ (xs : List (List AV)), (∀ x ∈ xs, x.length = sz) → xs.flatten.length = xs.length * sz
  | [], _ => by simp
  | x :: xs, h => by
    rw [List.flatten_cons, List.length_append, length_flatten xs (fun y hy => h y (by simp [hy])), h x (by simp), List.length_cons, Nat.add_mul]
    omega

theorem get_flatten {sz : Nat} : ∀ (xs : List (List AV)), (∀ x ∈ xs, x.length = sz) → ∀ (k : Nat) (a : AV), xs.flatten[k]? = some a →
    ∃ j x i, k = j * sz + i ∧ xs[j]? = some x ∧ x[i]? = some a
  | [], _, k, a, e => by simp at e
  | x :: xs, h, k, a, e => by
    rw [List.flatten_cons, List.getElem?_append] at e
    split at e
    · exact ⟨0, x, k, by omega, rfl, e⟩
    · rename_i hk
      have hx := h x (by simp)
      obtain ⟨j, y, i, h1, h2, h3⟩ := get_flatten xs (fun y hy => h y (by simp [hy])) _ _ e
      exact ⟨j + 1, y, i, by rw [Nat.add_mul]; omega, by simpa using h2, h3⟩

theorem chunk_len {sz : Nat} : ∀ (n : Nat) (cs : List AV), n * sz ≤ cs.length → (chunk sz n cs).length = n ∧ (∀ x ∈ chunk sz n cs, x.length = sz) ∧ (chunk sz n cs).flatten = cs.take (n * sz)
  | 0, cs, _ => by simp [chunk]
  | n + 1, cs, h => by
    rw [Nat.add_mul] at h
    obtain ⟨h1, h2, h3⟩ := chunk_len (sz := sz) n (cs.drop sz) (by simp; omega)
    refine ⟨by simp [chunk, h1], fun x hx => ?_, ?_⟩
    · simp only [chunk, List.mem_cons] at hx
      rcases hx with rfl | hx
      · simp; omega
      · exact h2 x hx
    · simp only [chunk, List.flatten_cons, h3]
      rw [show (n + 1) * sz = sz + n * sz by rw [Nat.add_mul]; omega, List.take_add]

/-- A slice's elements. -/
theorem Mem.elems (m : Mem P md w O X μ H L) {v : AV} {u : Value} {xs : List (List AV)} (r : Rep w O X μ v u) (h : elems H L v = some xs) :
    ∃ (A : Option Addr) (c : Nat), u = .slice A xs.length c ∧ xs.length ≤ c ∧ (A = none → c = 0) ∧
      (∀ sz, 0 < sz → (∀ x ∈ xs, x.length = sz) → ∀ ad, A = some ad → CellsAt w O X μ xs.flatten ad) := by
  cases r with
  | sln q e =>
    simp only [Ev.elems, Option.some.injEq] at h
    subst h
    exact ⟨none, 0, rfl, by simp, fun _ => rfl, fun sz _ _ ad e => by cases e⟩
  | sl q xs' A sz c U hz hs hx hl hc hb hcell hr _ =>
    simp only [Ev.elems, Option.some.injEq] at h
    subst h
    refine ⟨some A, c, rfl, hl, (fun e => by cases e), fun sz' hs' hx' ad e k a ek => ?_⟩
    cases e
    obtain ⟨j, x, i, hk, hj, hi⟩ := get_flatten xs' hx k a ek
    have hne : xs' ≠ [] := by intro e; rw [e] at hj; simp at hj
    obtain ⟨h1, h2⟩ := hcell j x hj i a hi
    exact ⟨(hb hne).1, U j i, by rw [hk]; exact h1, h2, hr j x hj i a hi⟩
  | own l b i n sz cl g o c A e hs hn hA hcl hsh =>
    simp only [Ev.elems] at h
    cases hb : getB H L l b with
    | none => rw [hb] at h; cases h
    | some ab =>
      rw [hb] at h
      cases ab with
      | cells cs =>
        simp only at h
        split at h
        · rename_i hle
          simp only [Option.some.injEq] at h
          subst h
          obtain ⟨g', o', h1, h2⟩ := m.at hb AB.cells_live
          rw [e] at h1
          simp only [Option.some.injEq, Prod.mk.injEq] at h1
          obtain ⟨rfl, rfl⟩ := h1
          obtain ⟨k1, k2, k3⟩ := chunk_len (sz := sz) n (cs.drop i) (by simp; omega)
          refine ⟨some A, c, by rw [k1], by rw [k1]; exact hn, (fun e => by cases e), fun sz' hs' hx' ad e k a ek => ?_⟩
          cases e
          by_cases hc0 : c = 0
          · have hn0 : n = 0 := by omega
            subst hn0
            simp [chunk] at ek
          · rw [hA hc0]
            rw [k3] at ek
            exact (((BR.cells h2).drop i).take _) k a ek
        · cases h
      | map es => cases h
      | loop _ _ _ _ => cases h
      | dead => cases h
  | _ => simp [Ev.elems] at h

/-- The values of so many cells. -/
theorem CellsAt.values {cs : List AV} {A : Addr} (h : CellsAt w O X μ cs A) : ∃ us : List Value, us.length = cs.length ∧ (∀ (j : Nat) (u : Value), us[j]? = some u → w.cell? (A.add j) = some u) ∧
    (∀ u ∈ us, u.oneCell' = true) ∧ (∀ (j : Nat) (a : AV) (u : Value), cs[j]? = some a → us[j]? = some u → Rep w O X μ a u) := by
  induction cs generalizing A with
  | nil => exact ⟨[], rfl, fun j u e => by simp at e, fun u hu => by simp at hu, fun j a u e => by simp at e⟩
  | cons a cs ih =>
    obtain ⟨h0, u, h1, h2, h3⟩ := h 0 a rfl
    obtain ⟨us, k1, k2, k3, k4⟩ := ih (A := ⟨A.block, A.off + 1, none⟩) (h.drop 1)
    have hA : A = ⟨A.block, A.off, none⟩ := by cases A; simp_all
    refine ⟨u :: us, by simp [k1], fun j x e => ?_, fun x hx => ?_, fun j y x ey ex => ?_⟩
    · rw [hA, Addr.add_lit]
      cases j with
      | zero => simp at e; subst e; simpa using h1
      | succ j =>
        have := k2 j x (by simpa using e)
        rw [Addr.add_lit] at this
        rw [← this]
        congr 2
        show A.off + (j + 1) = A.off + 1 + j
        omega
    · simp only [List.mem_cons] at hx
      rcases hx with rfl | hx
      · exact h2
      · exact k3 x hx
    · cases j with
      | zero => simp at ey ex; subst ey ex; exact h3
      | succ j => exact k4 j y x (by simpa using ey) (by simpa using ex)

end
end Go.Ev
