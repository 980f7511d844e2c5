/- What an abstract value stands for in a world; that it does so still when memory has grown. -/
import Derived.Test.YtiplefdmpcjgcaaGreatEvComp
namespace Go.Ev
open Go Go.RowKit

abbrev Mu := Nat → Nat → Option (Nat × Nat)

/-- What refers to nothing that anybody owns. -/
inductive Clean : AV → Prop
  | un : Clean .un
  | bool (b : Bool) : Clean (.bool b)
  | int (k : IntKind) (n : Int) : Clean (.int k n)
  | nilp : Clean .nilp
  | nilf : Clean .nilf
  | ro (b : Bool) (cs : List AV) : b = false → (∀ a ∈ cs, Clean a) → Clean (.ro b cs)
  | sl (m : SM) (xs : List (List AV)) : m.b = false → (∀ x ∈ xs, ∀ a ∈ x, Clean a) → Clean (.sl m xs)
  | fn (f : Nat) (cs : List AV) : (∀ a ∈ cs, Clean a) → Clean (.fn f cs)
  | agg (cs : List AV) : (∀ a ∈ cs, Clean a) → Clean (.agg cs)
  | tup (cs : List AV) : (∀ a ∈ cs, Clean a) → Clean (.tup cs)

/-- 'O': the blocks that some level owns; 'X': those that the level that runs may write. -/
inductive Rep (w : World) (O X : Nat → Prop) (μ : Mu) : AV → Value → Prop
  | bool (b : Bool) : Rep w O X μ (.bool b) (.bool b)
  | int (k : IntKind) (n : Int) : Rep w O X μ (.int k n) (.int k n)
  | nilp : Rep w O X μ .nilp (.pointer none)
  | nilf : Rep w O X μ .nilf .nilFunc
  | ptr (l b i g o : Nat) : μ l b = some (g, o) → Rep w O X μ (.ptr l b i) (.pointer (some ⟨g, o + i, none⟩))
  | mp (l b g o : Nat) : μ l b = some (g, o) → Rep w O X μ (.mp l b) (.map (some g))
  | yl (l b g : Nat) : μ l b = some (g, 0) → Rep w O X μ (.yl l b) (.func (.yield g) #[] #[])
  | ro (b : Bool) (cs : List AV) (g o : Nat) (U : Nat → Value) : (cs ≠ [] → (b = true ∧ ¬ X g ∨ ¬ O g)) →
      (∀ i a, cs[i]? = some a → w.cell? ⟨g, o + i, none⟩ = some (U i) ∧ (U i).oneCell' = true) → (∀ i a, cs[i]? = some a → Rep w O X μ a (U i)) → (b = false → ∀ a ∈ cs, Clean a) →
      Rep w O X μ (.ro b cs) (.pointer (some ⟨g, o, none⟩))
  | sln (m : SM) : m.z = true → Rep w O X μ (.sl m []) (.slice none 0 0)
  | sl (m : SM) (xs : List (List AV)) (A : Addr) (sz c : Nat) (U : Nat → Nat → Value) : m.z = false → 0 < sz → (∀ x ∈ xs, x.length = sz) → xs.length ≤ c → (m.c = true → c = xs.length) →
      (xs ≠ [] → A.spot = none ∧ (m.b = true ∧ ¬ X A.block ∨ ¬ O A.block)) →
      (∀ j x, xs[j]? = some x → ∀ i a, x[i]? = some a → w.cell? ⟨A.block, A.off + (j * sz + i), none⟩ = some (U j i) ∧ (U j i).oneCell' = true) →
      (∀ j x, xs[j]? = some x → ∀ i a, x[i]? = some a → Rep w O X μ a (U j i)) → (m.b = false → ∀ x ∈ xs, ∀ a ∈ x, Clean a) →
      Rep w O X μ (.sl m xs) (.slice (some A) xs.length c)
  | own (l b i n sz : Nat) (cl : Bool) (g o c : Nat) (A : Addr) : μ l b = some (g, o) → 0 < sz → n ≤ c → (c ≠ 0 → A = ⟨g, o + i, none⟩) → (cl = true → c = n) →
      (cl = false → ∃ ty, w.shape? g = some (ty, o + i + c * sz)) → Rep w O X μ (.own l b i n sz cl) (.slice (some A) n c)
  | fn (f : Nat) (cap : List AV) (vs : Array Value) : vs.size = cap.length → (∀ (i : Nat) (a : AV) (u : Value), cap[i]? = some a → vs[i]? = some u → a ≠ .un → Rep w O X μ a u) →
      Rep w O X μ (.fn f cap) (.func (.func f) #[] vs)
  | agg (cs : List AV) (vs : Array Value) : vs.size = cs.length → (∀ (i : Nat) (a : AV) (u : Value), cs[i]? = some a → vs[i]? = some u → Rep w O X μ a u) → (∀ (i : Nat) (u : Value), vs[i]? = some u → u.oneCell' = true) →
      Rep w O X μ (.agg cs) (.agg vs)
  | tup (cs : List AV) (vs : Array Value) : vs.size = cs.length → (∀ (i : Nat) (a : AV) (u : Value), cs[i]? = some a → vs[i]? = some u → a ≠ .un → Rep w O X μ a u) → Rep w O X μ (.tup cs) (.tuple vs)

theorem Rep.not_un {w : World} {O X : Nat → Prop} {μ : Mu} {u : Value} (h : Rep w O X μ .un u) : False := by cases h

/-- How a world, what is owned, and what may be written, go on. -/
structure Ext (w : World) (O X : Nat → Prop) (μ : Mu) (w' : World) (O' X' : Nat → Prop) (μ' : Mu) : Prop where
  mu : ∀ l b p, μ l b = some p → μ' l b = some p
  mu' : ∀ l b p, μ' l b = some p → μ l b = none → X' p.1
  os : w'.os = w.os
  tape : w'.tape = w.tape
  output : w'.output = w.output
  size : w.heap.size ≤ w'.heap.size
  block : ∀ g, g < w.heap.size → ¬ X g → w'.heap[g]? = w.heap[g]?
  shape : ∀ g, g < w.heap.size → w'.shape? g = w.shape? g
  o : ∀ g, O g → O' g
  o' : ∀ g, O' g → O g ∨ w.heap.size ≤ g
  x : ∀ g, X g → X' g
  x' : ∀ g, X' g → X g ∨ w.heap.size ≤ g

theorem Ext.refl (w : World) (O X : Nat → Prop) (μ : Mu) : Ext w O X μ w O X μ :=
  ⟨fun _ _ _ h => h, fun _ _ _ h k => by rw [h] at k; (cases k), rfl, rfl, rfl, Nat.le_refl _, fun _ _ _ => rfl, fun _ _ => rfl, fun _ h => h, fun _ h => .inl h, fun _ h => h, fun _ h => .inl h⟩

theorem Ext.trans {w w1 w2 : World} {O X O1 X1 O2 X2 : Nat → Prop} {μ μ1 μ2 : Mu} (h : Ext w O X μ w1 O1 X1 μ1) (k : Ext w1 O1 X1 μ1 w2 O2 X2 μ2) : Ext w O X μ w2 O2 X2 μ2 where
  mu l b p e := k.mu l b p (h.mu l b p e)
  mu' l b p e n := by
    cases e1 : μ1 l b with
    | none => exact k.mu' l b p e e1
    | some q =>
      have := k.mu l b q e1
      rw [e] at this
      simp only [Option.some.injEq] at this
      subst this
      exact k.x _ (h.mu' l b p e1 n)
  os := k.os.trans h.os
  tape := k.tape.trans h.tape
  output := k.output.trans h.output
  size := Nat.le_trans h.size k.size
  block g hg hx := (k.block g (Nat.lt_of_lt_of_le hg h.size) (fun hx1 => (h.x' g hx1).elim hx (fun h' => by omega))).trans (h.block g hg hx)
  shape g hg := (k.shape g (Nat.lt_of_lt_of_le hg h.size)).trans (h.shape g hg)
  o g hg := k.o g (h.o g hg)
  o' g hg := (k.o' g hg).elim (fun h1 => h.o' g h1) (fun h1 => .inr (Nat.le_trans h.size h1))
  x g hg := k.x g (h.x g hg)
  x' g hg := (k.x' g hg).elim (fun h1 => h.x' g h1) (fun h1 => .inr (Nat.le_trans h.size h1))

theorem lt_of_cell {w : World} {a : Addr} {v : Value} (h : w.cell? a = some v) : a.block < w.heap.size := World.block_lt_of_cell? w a h
theorem lt_of_shape {w : World} {g : Nat} {s : TypeId × Nat} (h : w.shape? g = some s) : g < w.heap.size := by
  unfold World.shape? at h
  split at h
  · rename_i hh; exact (Array.getElem?_eq_some_iff.1 hh).1
  · cases h

theorem Ext.cell {w w1 : World} {O X O1 X1 : Nat → Prop} {μ μ1 : Mu} (h : Ext w O X μ w1 O1 X1 μ1) {a : Addr} {v : Value} (hc : w.cell? a = some v) (hx : ¬ X a.block) : w1.cell? a = some v :=
  (World.cell?_of_block (h.block a.block (lt_of_cell hc) hx)).trans hc

theorem Rep.ext {w w1 : World} {O X O1 X1 : Nat → Prop} {μ μ1 : Mu} (hX : ∀ g, X g → O g) (h : Ext w O X μ w1 O1 X1 μ1) {v : AV} {u : Value} (r : Rep w O X μ v u) : Rep w1 O1 X1 μ1 v u := by
  induction r with
  | bool b => exact .bool b
  | int k n => exact .int k n
  | nilp => exact .nilp
  | nilf => exact .nilf
  | ptr l b i g o e => exact .ptr l b i g o (h.mu _ _ _ e)
  | mp l b g o e => exact .mp l b g o (h.mu _ _ _ e)
  | yl l b g e => exact .yl l b g (h.mu _ _ _ e)
  | ro b cs g o U hb hc _ hcl ih =>
    refine .ro b cs g o U (fun hne => ?_) (fun i a e => ?_) ih hcl
    · obtain ⟨a, r, rfl⟩ := List.exists_cons_of_ne_nil hne
      have hg := lt_of_cell (hc 0 a rfl).1
      rcases hb hne with ⟨h1, h2⟩ | h2
      · exact .inl ⟨h1, fun q => (h.x' g q).elim h2 (fun q => by simp at hg; omega)⟩
      · exact .inr (fun q => (h.o' g q).elim h2 (fun q => by simp at hg; omega))
    · have hne : cs ≠ [] := by intro e'; rw [e'] at e; simp at e
      have nx : ¬ X g := (hb hne).elim (fun q => q.2) (fun q hx => q (hX g hx))
      exact ⟨h.cell (hc i a e).1 nx, (hc i a e).2⟩
  | sln m e => exact .sln m e
  | sl m xs A sz c U hz hs hx hl hc hb hcell _ hcl ih =>
    refine .sl m xs A sz c U hz hs hx hl hc (fun hne => ?_) (fun j x ej i a ei => ?_) ih hcl
    · obtain ⟨h1, h2⟩ := hb hne
      refine ⟨h1, ?_⟩
      obtain ⟨y, ys, rfl⟩ := List.exists_cons_of_ne_nil hne
      have hy : y.length = sz := hx y (by simp)
      obtain ⟨a, r, rfl⟩ := List.exists_cons_of_ne_nil (show y ≠ [] by intro e; rw [e] at hy; simp at hy; omega)
      have hg := lt_of_cell (hcell 0 _ rfl 0 a rfl).1
      rcases h2 with ⟨h2, h3⟩ | h3
      · exact .inl ⟨h2, fun q => (h.x' _ q).elim h3 (fun q => by simp at hg; omega)⟩
      · exact .inr (fun q => (h.o' _ q).elim h3 (fun q => by simp at hg; omega))
    · have hne : xs ≠ [] := by intro e; rw [e] at ej; simp at ej
      obtain ⟨_, h2⟩ := hb hne
      have nx : ¬ X A.block := h2.elim (fun q => q.2) (fun q hx => q (hX _ hx))
      exact ⟨h.cell (hcell j x ej i a ei).1 nx, (hcell j x ej i a ei).2⟩
  | own l b i n sz cl g o c A e hs hn hA hcl hsh =>
    refine .own l b i n sz cl g o c A (h.mu _ _ _ e) hs hn hA hcl (fun hf => ?_)
    obtain ⟨ty, ht⟩ := hsh hf
    exact ⟨ty, (h.shape g (lt_of_shape ht)).trans ht⟩
  | fn f cap vs hs _ ih => exact .fn f cap vs hs ih
  | agg cs vs hs _ h1 ih => exact .agg cs vs hs ih h1
  | tup cs vs hs _ ih => exact .tup cs vs hs ih

/-- What is clean stands for the same, whoever looks. -/
theorem Rep.clean {w : World} {O X O1 X1 : Nat → Prop} {μ μ1 : Mu} (ho : ∀ g, O g → O1 g) {v : AV} {u : Value} (r : Rep w O1 X1 μ1 v u) : Clean v → Rep w O X μ v u := by
  induction r with
  | bool b => exact fun _ => .bool b
  | int k n => exact fun _ => .int k n
  | nilp => exact fun _ => .nilp
  | nilf => exact fun _ => .nilf
  | ptr l b i g o e => exact fun c => by cases c
  | mp l b g o e => exact fun c => by cases c
  | yl l b g e => exact fun c => by cases c
  | ro b cs g o U hb hc _ hcl ih =>
    intro c
    cases c with
    | ro _ _ h0 h1 =>
      exact .ro b cs g o U (fun hne => .inr (fun q => (hb hne).elim (fun k => by rw [h0] at k; cases k.1) (fun k => k (ho _ q)))) hc (fun i a e => ih i a e (h1 a (List.mem_of_getElem? e))) hcl
  | sln m e => exact fun _ => .sln m e
  | sl m xs A sz c U hz hs hx hl hc hb hcell _ hcl ih =>
    intro c
    cases c with
    | sl _ _ h0 h1 =>
      exact .sl m xs A sz _ U hz hs hx hl hc (fun hne => ⟨(hb hne).1, .inr (fun q => (hb hne).2.elim (fun k => by rw [h0] at k; cases k.1) (fun k => k (ho _ q)))⟩) hcell
        (fun j x ej i a ei => ih j x ej i a ei (h1 x (List.mem_of_getElem? ej) a (List.mem_of_getElem? ei))) hcl
  | own => exact fun c => by cases c
  | fn f cap vs hs _ ih => exact fun c => by cases c with | fn _ _ h => exact .fn f cap vs hs (fun i a u e1 e2 n => ih i a u e1 e2 n (h a (List.mem_of_getElem? e1)))
  | agg cs vs hs _ h1 ih => exact fun c => by cases c with | agg _ h => exact .agg cs vs hs (fun i a u e1 e2 => ih i a u e1 e2 (h a (List.mem_of_getElem? e1))) h1
  | tup cs vs hs _ ih => exact fun c => by cases c with | tup _ h => exact .tup cs vs hs (fun i a u e1 e2 n => ih i a u e1 e2 n (h a (List.mem_of_getElem? e1)))

end Go.Ev
