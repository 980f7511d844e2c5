/- Loops over functions: their records. -/
import Derived.Test.YtiplefdmpcjgcaaGreatEvDraw
namespace Go.Ev
open Go Go.RowKit

section
variable {P : Program} {md : Nat → Md} {w : World} {O X : Nat → Prop} {μ : Mu} {H : List Lv} {L : Lv}

/-- Where all cells are as they were. -/
theorem Rep.same {w' : World} (hc : ∀ a, w'.cell? a = w.cell? a) (hs : ∀ g, w'.shape? g = w.shape? g) {v : AV} {u : Value} (r : Rep w O X μ v u) : Rep w' O X μ v u := by
  induction r with
  | bool b => exact .bool b
  | int k n => exact .int k n
  | nilp => exact .nilp
  | nilf => exact .nilf
  | ptr l b i g o e => exact .ptr l b i g o e
  | mp l b g o e => exact .mp l b g o e
  | yl l b g e => exact .yl l b g e
  | ro b cs g o U hb hcc _ hcl ih => exact .ro b cs g o U hb (fun i a e => by rw [hc]; exact hcc i a e) ih hcl
  | sln m e => exact .sln m e
  | sl m xs A sz c U hz hsz hx hl hcp hb hcell _ hcl ih => exact .sl m xs A sz _ U hz hsz hx hl hcp hb (fun j x ej i a ei => by rw [hc]; exact hcell j x ej i a ei) ih hcl
  | own l b i n sz cl g o c A e hsz hn hA hcl hsh => exact .own l b i n sz cl g o c A e hsz hn hA hcl (fun q => by rw [hs]; exact hsh q)
  | fn f cap vs hs _ ih => exact .fn f cap vs hs ih
  | agg cs vs hs _ h1 ih => exact .agg cs vs hs ih h1
  | tup cs vs hs _ ih => exact .tup cs vs hs ih

/-- Where no cells lie, one may write besides. -/
theorem Rep.up {g0 : Nat} (hg : ∀ a : Addr, a.block = g0 → w.cell? a = none) {v : AV} {u : Value} (r : Rep w O X μ v u) : Rep w O (fun k => X k ∨ k = g0) μ v u := by
  induction r with
  | bool b => exact .bool b
  | int k n => exact .int k n
  | nilp => exact .nilp
  | nilf => exact .nilf
  | ptr l b i g o e => exact .ptr l b i g o e
  | mp l b g o e => exact .mp l b g o e
  | yl l b g e => exact .yl l b g e
  | ro b cs g o U hb hcc _ hcl ih =>
    refine .ro b cs g o U (fun hne => (hb hne).imp (fun q => ⟨q.1, fun k => k.elim q.2 (fun e => ?_)⟩) id) hcc ih hcl
    obtain ⟨a, r, rfl⟩ := List.exists_cons_of_ne_nil hne
    have := (hcc 0 a rfl).1
    rw [hg ⟨g, o + 0, none⟩ e] at this; cases this
  | sln m e => exact .sln m e
  | sl m xs A sz c U hz hsz hx hl hcp hb hcell _ hcl ih =>
    refine .sl m xs A sz _ U hz hsz hx hl hcp (fun hne => ⟨(hb hne).1, (hb hne).2.imp (fun q => ⟨q.1, fun k => k.elim q.2 (fun e => ?_)⟩) id⟩) hcell ih hcl
    obtain ⟨y, ys, rfl⟩ := List.exists_cons_of_ne_nil hne
    have hy : y.length = sz := hx y (by simp)
    obtain ⟨a, r, rfl⟩ := List.exists_cons_of_ne_nil (show y ≠ [] by intro e; rw [e] at hy; simp at hy; omega)
    have := (hcell 0 _ rfl 0 a rfl).1
    rw [hg ⟨A.block, A.off + (0 * sz + 0), none⟩ e] at this; cases this
  | own l b i n sz cl g o c A e hsz hn hA hcl hsh => exact .own l b i n sz cl g o c A e hsz hn hA hcl hsh
  | fn f cap vs hs _ ih => exact .fn f cap vs hs ih
  | agg cs vs hs _ h1 ih => exact .agg cs vs hs ih h1
  | tup cs vs hs _ ih => exact .tup cs vs hs ih

theorem putLoop_cell {g : Nat} {r : Loop} (h : w.heap[g]? = some (.loop r)) (r' : Loop) (a : Addr) : (w.putObj g (.loop r')).cell? a = w.cell? a := by
  by_cases e : a.block = g
  · have hlt := (Array.getElem?_eq_some_iff.1 h).1
    have h1 : (w.putObj g (.loop r')).heap[a.block]? = some (.loop r') := by rw [e]; exact World.putObj_heap_same hlt
    have h2 : w.heap[a.block]? = some (.loop r) := by rw [e]; exact h
    unfold World.cell?
    simp only [h1, h2]
  · exact World.cell?_of_block (World.putObj_heap_other e)

theorem putLoop_shape {g : Nat} {r : Loop} (h : w.heap[g]? = some (.loop r)) (r' : Loop) (k : Nat) : (w.putObj g (.loop r')).shape? k = w.shape? k := by
  unfold World.shape?
  by_cases e : k = g
  · subst e
    rw [World.putObj_heap_same (Array.getElem?_eq_some_iff.1 h).1, h]
  · rw [World.putObj_heap_other e]

theorem loop_cell {g : Nat} {r : Loop} (h : w.heap[g]? = some (.loop r)) (a : Addr) (e : a.block = g) : w.cell? a = none := by
  have h2 : w.heap[a.block]? = some (.loop r) := by rw [e]; exact h
  unfold World.cell?
  simp only [h2]

/-- A record that no block stands for may turn. -/
theorem Mem.putLoop (m : Mem P md w O X μ H L) {g : Nat} {r : Loop} (h : w.heap[g]? = some (.loop r)) (r' : Loop) (hcur : ∀ b ab o, L[b]? = some ab → ab.live → μ H.length b = some (g, o) → False)
    (hold : ∀ l b ab o, l < H.length → getB H L l b = some ab → ab.live → μ l b = some (g, o) → False) : Mem P md (w.putObj g (.loop r')) O X μ H L := by
  have br : ∀ {ab : AB} {k o : Nat}, k ≠ g → BR P md w O X μ ab k o → BR P md (w.putObj g (.loop r')) O X μ ab k o := by
    intro ab k o hk b
    have hh : (w.putObj g (.loop r')).heap[k]? = w.heap[k]? := World.putObj_heap_other hk
    have rp : ∀ {v : AV} {u : Value}, Rep w O X μ v u → Rep (w.putObj g (.loop r')) O X μ v u := fun q => q.same (putLoop_cell h r') (putLoop_shape h r')
    cases ab with
    | cells cs => obtain ⟨arr, ty, h1, h2, h3⟩ := b; exact ⟨arr, ty, hh.trans h1, h2, fun i a e => let ⟨u, k1, k2, k3⟩ := h3 i a e; ⟨u, k1, k2, rp k3⟩⟩
    | map es => obtain ⟨arr, ty, h1, h2, h3⟩ := b; exact ⟨arr, ty, hh.trans h1, h2, fun i k v e e1 e2 => let ⟨k1, k2⟩ := h3 i k v e e1 e2; ⟨rp k1, rp k2⟩⟩
    | loop ps T asg bd =>
      obtain ⟨h0, rec, h1, h2, h3, nt, h4, h5, h6, h7, h8, hp, h9⟩ := b
      exact ⟨h0, rec, hh.trans h1, h2, h3, nt, h4, h5, h6, h7, h8, hp, fun t hn => rp (h9 t hn)⟩
    | dead => trivial
  refine ⟨m.xo, fun k hk => by simpa using m.ol k hk, m.dom, m.dom2, fun b ab e hl => ?_, m.inj, fun l b ab hlt e hl => ?_⟩
  · obtain ⟨k, o, h1, h2, h3⟩ := m.cur b ab e hl
    exact ⟨k, o, h1, h2, br (fun q => hcur b ab o e hl (by rw [← q]; exact h1)) h3⟩
  · obtain ⟨k, o, h1, h2, h3⟩ := m.old l b ab hlt e hl
    exact ⟨k, o, h1, h2, br (fun q => hold l b ab o hlt e hl (by rw [← q]; exact h1)) h3⟩

/-- A block that nobody owns. -/
theorem ext_free (o : Obj) : Ext w O X μ (w.alloc o) O X μ where
  mu _ _ _ h := h
  mu' _ _ _ h k := by rw [h] at k; cases k
  os := rfl
  tape := rfl
  output := rfl
  size := by simp
  block g hg _ := heap_alloc_old w o hg
  shape g hg := by unfold World.shape?; rw [heap_alloc_old w o hg]
  o _ h := h
  o' _ h := .inl h
  x _ h := h
  x' _ h := .inl h

theorem ext_putLoop {g : Nat} {r : Loop} (h : w.heap[g]? = some (.loop r)) (r' : Loop) (hx : X g) : Ext w O X μ (w.putObj g (.loop r')) O X μ where
  mu _ _ _ h := h
  mu' _ _ _ h k := by rw [h] at k; cases k
  os := rfl
  tape := rfl
  output := rfl
  size := by simp
  block k _ hk := World.putObj_heap_other (fun e => hk (by rw [e]; exact hx))
  shape k _ := putLoop_shape h r' k
  o _ h := h
  o' _ h := .inl h
  x _ h := h
  x' _ h := .inl h

theorem putDef_cell {D : Nat} {x y : Option (List Deferred)} (h : w.heap[D]? = some (.deferred x)) (a : Addr) : (w.putObj D (.deferred y)).cell? a = w.cell? a := by
  by_cases e : a.block = D
  · have hlt := (Array.getElem?_eq_some_iff.1 h).1
    have h1 : (w.putObj D (.deferred y)).heap[a.block]? = some (.deferred y) := by rw [e]; exact World.putObj_heap_same hlt
    have h2 : w.heap[a.block]? = some (.deferred x) := by rw [e]; exact h
    unfold World.cell?
    simp only [h1, h2]
  · exact World.cell?_of_block (World.putObj_heap_other e)

theorem putDef_shape {D : Nat} {x y : Option (List Deferred)} (h : w.heap[D]? = some (.deferred x)) (k : Nat) : (w.putObj D (.deferred y)).shape? k = w.shape? k := by
  unfold World.shape?
  by_cases e : k = D
  · subst e
    rw [World.putObj_heap_same (Array.getElem?_eq_some_iff.1 h).1, h]
  · rw [World.putObj_heap_other e]

/-- A block of deferred calls may turn. -/
theorem Mem.putDef (m : Mem P md w O X μ H L) {D : Nat} {x : Option (List Deferred)} (h : w.heap[D]? = some (.deferred x)) (y : Option (List Deferred)) : Mem P md (w.putObj D (.deferred y)) O X μ H L := by
  have br : ∀ {ab : AB} {k o : Nat}, BR P md w O X μ ab k o → BR P md (w.putObj D (.deferred y)) O X μ ab k o := by
    intro ab k o b
    have hh : ∀ ob : Obj, w.heap[k]? = some ob → (∀ z, ob ≠ .deferred z) → (w.putObj D (.deferred y)).heap[k]? = some ob := fun ob e hne => by
      rw [World.putObj_heap_other (fun q => ?_)]
      · exact e
      · rw [q, h] at e; exact hne x (by simpa using e.symm)
    have rp : ∀ {v : AV} {u : Value}, Rep w O X μ v u → Rep (w.putObj D (.deferred y)) O X μ v u := fun q => q.same (putDef_cell h) (putDef_shape h)
    cases ab with
    | cells cs => obtain ⟨arr, ty, h1, h2, h3⟩ := b; exact ⟨arr, ty, hh _ h1 (fun z e => by cases e), h2, fun i a e => let ⟨u, k1, k2, k3⟩ := h3 i a e; ⟨u, k1, k2, rp k3⟩⟩
    | map es => obtain ⟨arr, ty, h1, h2, h3⟩ := b; exact ⟨arr, ty, hh _ h1 (fun z e => by cases e), h2, fun i k v e e1 e2 => let ⟨k1, k2⟩ := h3 i k v e e1 e2; ⟨rp k1, rp k2⟩⟩
    | loop ps T asg bd =>
      obtain ⟨h0, rec, h1, h2, h3, nt, h4, h5, h6, h7, h8, hp, h9⟩ := b
      exact ⟨h0, rec, hh _ h1 (fun z e => by cases e), h2, h3, nt, h4, h5, h6, h7, h8, hp, fun t hn => rp (h9 t hn)⟩
    | dead => trivial
  refine ⟨m.xo, fun k hk => by simpa using m.ol k hk, m.dom, m.dom2, fun b ab e hl => ?_, m.inj, fun l b ab hlt e hl => ?_⟩
  · obtain ⟨k, o, h1, h2, h3⟩ := m.cur b ab e hl
    exact ⟨k, o, h1, h2, br h3⟩
  · obtain ⟨k, o, h1, h2, h3⟩ := m.old l b ab hlt e hl
    exact ⟨k, o, h1, h2, br h3⟩

/-- A block of deferred calls that came later. -/
theorem Ext.putDef {w' : World} {O' X' : Nat → Prop} {μ' : Mu} (h : Ext w O X μ w' O' X' μ') {D : Nat} {x : Option (List Deferred)} (hd : w'.heap[D]? = some (.deferred x)) (hn : w.heap.size ≤ D) (y : Option (List Deferred)) : Ext w O X μ (w'.putObj D (.deferred y)) O' X' μ' where
  mu := h.mu
  mu' := h.mu'
  os := h.os
  tape := h.tape
  output := h.output
  size := by simpa using h.size
  block k hk hx := (World.putObj_heap_other (by omega)).trans (h.block k hk hx)
  shape k hk := (putDef_shape hd k).trans (h.shape k hk)
  o := h.o
  o' := h.o'
  x := h.x
  x' := h.x'


theorem BR.up {g0 : Nat} (hg : ∀ a : Addr, a.block = g0 → w.cell? a = none) {ab : AB} {g o : Nat} (b : BR P md w O X μ ab g o) : BR P md w O (fun k => X k ∨ k = g0) μ ab g o := by
  cases ab with
  | cells cs => obtain ⟨arr, ty, h1, h2, h3⟩ := b; exact ⟨arr, ty, h1, h2, fun i a e => let ⟨u, k1, k2, k3⟩ := h3 i a e; ⟨u, k1, k2, k3.up hg⟩⟩
  | map es => obtain ⟨arr, ty, h1, h2, h3⟩ := b; exact ⟨arr, ty, h1, h2, fun i k v e e1 e2 => let ⟨k1, k2⟩ := h3 i k v e e1 e2; ⟨k1.up hg, k2.up hg⟩⟩
  | loop ps T asg bd =>
    obtain ⟨h0, rec, h1, h2, h3, nt, h4, h5, h6, h7, h8, hp, h9⟩ := b
    exact ⟨h0, rec, h1, h2, h3, nt, h4, h5, h6, h7, h8, hp, fun t hn => (h9 t hn).up hg⟩
  | dead => trivial

theorem getB_lt {L' : Lv} {l b : Nat} (h : l < H.length) : getB H L' l b = getB H L l b := by
  unfold getB
  have e : ¬ l = H.length := by omega
  rw [if_neg e, if_neg e]

/-- A record comes back to its level. -/
theorem Mem.back (m : Mem P md w O X μ H L) {g : Nat} {r : Loop} (h : w.heap[g]? = some (.loop r)) (r' : Loop) (hO : O g) (hX : ¬ X g) {b : Nat} (hmu : μ H.length b = some (g, 0)) (hb : b < L.length)
    (hold : ∀ l b ab o, l < H.length → getB H L l b = some ab → ab.live → μ l b = some (g, o) → False) {x : AB}
    (hr : BR P md (w.putObj g (.loop r')) O (fun k => X k ∨ k = g) μ x g 0) : Mem P md (w.putObj g (.loop r')) O (fun k => X k ∨ k = g) μ H (L.set b x) := by
  have ncur : ∀ b ab o, L[b]? = some ab → ab.live → μ H.length b = some (g, o) → False := fun i ab o e hl hq => by
    obtain ⟨p, q, z1, z2, _⟩ := m.cur i ab e hl
    rw [hq] at z1
    simp only [Option.some.injEq, Prod.mk.injEq] at z1
    exact hX (by rw [z1.1]; exact z2)
  have m' := m.putLoop h r' ncur hold
  have hg : ∀ a : Addr, a.block = g → (w.putObj g (.loop r')).cell? a = none := fun a e => loop_cell (World.putObj_heap_same (Array.getElem?_eq_some_iff.1 h).1) a e
  refine ⟨fun k hk => hk.elim (m'.xo k) (fun e => by rw [e]; exact hO), m'.ol, fun i hi => m'.dom i (by simpa using hi), m'.dom2, fun i ab e hl => ?_, fun i j y z p q q' e1 l1 e2 l2 h1 h2 => ?_, fun l i ab hlt e hl => ?_⟩
  · rcases getElem?_set_of e with ⟨rfl, rfl⟩ | ⟨_, e'⟩
    · exact ⟨g, 0, hmu, .inr rfl, hr⟩
    · obtain ⟨p, q, h1, h2, h3⟩ := m'.cur i ab e' hl
      exact ⟨p, q, h1, .inl h2, h3.up hg⟩
  · rcases getElem?_set_of e1 with ⟨rfl, rfl⟩ | ⟨_, e1'⟩
    · rcases getElem?_set_of e2 with ⟨rfl, rfl⟩ | ⟨_, e2'⟩
      · rfl
      · rw [hmu] at h1
        simp only [Option.some.injEq, Prod.mk.injEq] at h1
        exact (ncur j z q' e2' l2 (by rw [h1.1]; exact h2)).elim
    · rcases getElem?_set_of e2 with ⟨rfl, rfl⟩ | ⟨_, e2'⟩
      · rw [hmu] at h2
        simp only [Option.some.injEq, Prod.mk.injEq] at h2
        exact (ncur i y q e1' l1 (by rw [h2.1]; exact h1)).elim
      · exact m'.inj i j y z p q q' e1' l1 e2' l2 h1 h2
  · rw [getB_lt (L := L) hlt] at e
    obtain ⟨p, q, h1, h2, h3⟩ := m'.old l i ab hlt e hl
    exact ⟨p, q, h1, fun k => k.elim h2 (fun e' => hold l i ab q hlt e hl (by rw [← e']; exact h1)), h3.up hg⟩

/-- A round, and what its record is behind it. -/
theorem Ext.round {g : Nat} {w1 w3 : World} {O1 X1 O3 X3 : Nat → Prop} {μ1 μ3 : Mu} {r1 r3 : Loop} (hX : X g) (h : Ext w O (fun k => X k ∧ k ≠ g) μ w1 O1 X1 μ1) (h1 : w1.heap[g]? = some (.loop r1)) (x1 x3 : Loop)
    (k : Ext (w1.putObj g (.loop x1)) O1 X1 μ1 w3 O3 X3 μ3) (h3 : w3.heap[g]? = some (.loop r3)) : Ext w O X μ (w3.putObj g (.loop x3)) O3 (fun k => X3 k ∨ k = g) μ3 where
  mu l b p e := k.mu l b p (h.mu l b p e)
  mu' l b p e n := by
    cases e1 : μ1 l b with
    | none => exact .inl (k.mu' l b p e e1)
    | some q =>
      have := k.mu l b q e1
      rw [e] at this
      simp only [Option.some.injEq] at this
      subst this
      exact .inl (k.x _ (h.mu' l b p e1 n))
  os := by rw [← h.os]; exact k.os
  tape := by rw [← h.tape]; exact k.tape
  output := by rw [← h.output]; exact k.output
  size := by
    have := k.size
    have := h.size
    simp at *
    omega
  block j hj hx := by
    have hne : j ≠ g := fun e => hx (by rw [e]; exact hX)
    have hs := h.size
    have hnX1 : ¬ X1 j := fun q => (h.x' j q).elim (fun q => hx q.1) (fun q => by omega)
    exact (World.putObj_heap_other hne).trans ((k.block j (by simp; omega) hnX1).trans ((World.putObj_heap_other hne).trans (h.block j hj (fun q => hx q.1))))
  shape j hj := by
    have hs := h.size
    exact (putLoop_shape h3 x3 j).trans ((k.shape j (by simp; omega)).trans ((putLoop_shape h1 x1 j).trans (h.shape j hj)))
  o j hj := k.o j (h.o j hj)
  o' j hj := by
    have hs := h.size
    exact (k.o' j hj).elim (fun q => h.o' j q) (fun q => .inr (by simp at q; omega))
  x j hj := by
    by_cases e : j = g
    · exact .inr e
    · exact .inl (k.x j (h.x j ⟨hj, e⟩))
  x' j hj := by
    have hs := h.size
    rcases hj with hj | rfl
    · exact (k.x' j hj).elim (fun q => (h.x' j q).imp (·.1) id) (fun q => .inr (by simp at q; omega))
    · exact .inl hX

end
end Go.Ev
