/- Operations that make memory. -/
import Derived.Test.YtiplefdmpcjgcaaGreatEvReadC
namespace Go.Ev
open Go Go.RowKit

section
variable {P : Program} {md : Nat → Md} {w : World} {O X : Nat → Prop} {μ : Mu} {H : List Lv} {L : Lv}

theorem BR.lt {ab : AB} {g o : Nat} (h : BR P md w O X μ ab g o) (hl : ab.live) : g < w.heap.size := by
  cases ab with
  | cells cs => obtain ⟨arr, ty, h1, _⟩ := h; exact (Array.getElem?_eq_some_iff.1 h1).1
  | map es => obtain ⟨arr, ty, h1, _⟩ := h; exact (Array.getElem?_eq_some_iff.1 h1).1
  | loop ps T asg bd => obtain ⟨_, rec, h1, _⟩ := h; exact (Array.getElem?_eq_some_iff.1 h1).1
  | dead => exact hl.elim

theorem BR.ext {w' : World} {O' X' : Nat → Prop} {μ' : Mu} (hX : ∀ g, X g → O g) (h : Ext w O X μ w' O' X' μ') {ab : AB} {g o : Nat} (hg : w'.heap[g]? = w.heap[g]?) (b : BR P md w O X μ ab g o) : BR P md w' O' X' μ' ab g o := by
  cases ab with
  | cells cs =>
    obtain ⟨arr, ty, h1, h2, h3⟩ := b
    exact ⟨arr, ty, hg.trans h1, h2, fun i a e => let ⟨u, k1, k2, k3⟩ := h3 i a e; ⟨u, k1, k2, k3.ext hX h⟩⟩
  | map es =>
    obtain ⟨arr, ty, h1, h2, h3⟩ := b
    exact ⟨arr, ty, hg.trans h1, h2, fun i k v e e1 e2 => let ⟨k1, k2⟩ := h3 i k v e e1 e2; ⟨k1.ext hX h, k2.ext hX h⟩⟩
  | loop ps T asg bd =>
    obtain ⟨h0, rec, h1, h2, h3, nt, h4, h5, h6, h7, h8, hp, h9⟩ := b
    exact ⟨h0, rec, hg.trans h1, h2, h3, nt, h4, h5, h6, h7, h8, hp, fun t hn => (h9 t hn).ext hX h⟩
  | dead => trivial

/-- The level goes on. -/
theorem Mem.step {w' : World} {O' X' : Nat → Prop} {μ' : Mu} {L' : Lv} (m : Mem P md w O X μ H L) (h : Ext w O X μ w' O' X' μ') (xo' : ∀ g, X' g → O' g) (ol' : ∀ g, O' g → g < w'.heap.size)
    (dom' : ∀ b, L'.length ≤ b → μ' H.length b = none) (dom2' : ∀ l b, H.length < l → μ' l b = none)
    (cur' : ∀ (b : Nat) (ab : AB), L'[b]? = some ab → ab.live → (L[b]? = some ab ∧ ∀ g o, μ H.length b = some (g, o) → w'.heap[g]? = w.heap[g]?) ∨ ∃ g o, μ' H.length b = some (g, o) ∧ X' g ∧ BR P md w' O' X' μ' ab g o)
    (inj' : ∀ (b b' : Nat) (x x' : AB) (g o o' : Nat), L'[b]? = some x → x.live → L'[b']? = some x' → x'.live → μ' H.length b = some (g, o) → μ' H.length b' = some (g, o') → b = b') :
    Mem P md w' O' X' μ' H L' where
  xo := xo'
  ol := ol'
  dom := dom'
  dom2 := dom2'
  inj := inj'
  cur b ab e hl := by
    rcases cur' b ab e hl with ⟨e1, e2⟩ | h1
    · obtain ⟨g, o, h1, h2, h3⟩ := m.cur b ab e1 hl
      exact ⟨g, o, h.mu _ _ _ h1, h.x g h2, h3.ext m.xo h (e2 g o h1)⟩
    · exact h1
  old l b ab hlt e hl := by
    have e' : getB H L l b = some ab := by
      unfold getB at e ⊢
      rw [if_neg (by omega)] at e ⊢
      exact e
    obtain ⟨g, o, h1, h2, h3⟩ := m.old l b ab hlt e' hl
    have hg := h3.lt hl
    exact ⟨g, o, h.mu _ _ _ h1, fun q => (h.x' g q).elim h2 (fun q => by omega), h3.ext m.xo h (h.block g hg h2)⟩

/-- A new block of a level. -/
def addMu (μ : Mu) (l b : Nat) (p : Nat × Nat) : Mu := fun l' b' => if l' = l ∧ b' = b then some p else μ l' b'
def addP (X : Nat → Prop) (g : Nat) : Nat → Prop := fun k => X k ∨ k = g

theorem addMu_same (μ : Mu) (l b : Nat) (p : Nat × Nat) : addMu μ l b p l b = some p := by simp [addMu]
theorem addMu_le {μ : Mu} {l b : Nat} {p : Nat × Nat} (h : μ l b = none) : ∀ l' b' q, μ l' b' = some q → addMu μ l b p l' b' = some q := by
  intro l' b' q e
  unfold addMu
  rw [if_neg]
  · exact e
  · rintro ⟨rfl, rfl⟩; rw [h] at e; cases e

theorem ext_alloc {b : Nat} (o : Obj) (hm : μ H.length b = none) :
    Ext w O X μ (w.alloc o) (addP O w.heap.size) (addP X w.heap.size) (addMu μ H.length b (w.heap.size, 0)) where
  mu := addMu_le hm
  mu' l' b' p h k := by
    unfold addMu at h
    split at h
    · simp only [Option.some.injEq] at h; subst h; exact .inr rfl
    · rw [k] at h; cases h
  os := rfl
  tape := rfl
  output := rfl
  size := by simp
  block g hg _ := heap_alloc_old w o hg
  shape g hg := by unfold World.shape?; rw [heap_alloc_old w o hg]
  o g h := .inl h
  o' g h := h.imp id (fun e => by rw [e]; exact Nat.le_refl _)
  x g h := .inl h
  x' g h := h.imp id (fun e => by rw [e]; exact Nat.le_refl _)

/-- A new block, at slot b. -/
theorem Mem.alloc {b : Nat} {o : Obj} {ab : AB} {L' : Lv} (m : Mem P md w O X μ H L) (hm : μ H.length b = none) (hL : ∀ (i : Nat) (x : AB), L'[i]? = some x → x.live → i = b ∧ x = ab ∨ i ≠ b ∧ L[i]? = some x) (hlen : L.length ≤ L'.length) (hb : b < L'.length)
    (hr : BR P md (w.alloc o) (addP O w.heap.size) (addP X w.heap.size) (addMu μ H.length b (w.heap.size, 0)) ab w.heap.size 0) :
    Mem P md (w.alloc o) (addP O w.heap.size) (addP X w.heap.size) (addMu μ H.length b (w.heap.size, 0)) H L' := by
  refine m.step (ext_alloc o hm) (fun g h => h.imp (m.xo g) id) (fun g h => ?_) (fun i hi => ?_) (fun l i hi => ?_) (fun i x e hl => ?_) (fun i j x y g p q e1 l1 e2 l2 h1 h2 => ?_)
  · rcases h with h | rfl
    · have := m.ol g h; simp; omega
    · simp
  · unfold addMu
    rw [if_neg (by rintro ⟨_, rfl⟩; omega)]
    exact m.dom i (by omega)
  · unfold addMu
    rw [if_neg (by rintro ⟨rfl, _⟩; omega)]
    exact m.dom2 l i hi
  · rcases hL i x e hl with ⟨rfl, rfl⟩ | ⟨hne, e'⟩
    · exact .inr ⟨_, 0, addMu_same _ _ _ _, .inr rfl, hr⟩
    · refine .inl ⟨e', fun g p h => ?_⟩
      obtain ⟨g', p', h1, _, h3⟩ := m.cur i x e' hl
      rw [h] at h1
      simp only [Option.some.injEq, Prod.mk.injEq] at h1
      exact heap_alloc_old w o (by rw [h1.1]; exact h3.lt hl)
  · have old : ∀ (i : Nat) (x : AB) (g p : Nat), i ≠ b → L'[i]? = some x → x.live → addMu μ H.length b (w.heap.size, 0) H.length i = some (g, p) → μ H.length i = some (g, p) ∧ L[i]? = some x ∧ g < w.heap.size := by
      intro i x g p hne e hl h
      rcases hL i x e hl with ⟨rfl, _⟩ | ⟨_, e'⟩
      · exact absurd rfl hne
      · have hh : μ H.length i = some (g, p) := by
          unfold addMu at h
          rw [if_neg (by rintro ⟨_, q⟩; exact hne q)] at h
          exact h
        obtain ⟨g', p', h1, _, h3⟩ := m.cur i x e' hl
        rw [hh] at h1
        simp only [Option.some.injEq, Prod.mk.injEq] at h1
        exact ⟨hh, e', by rw [h1.1]; exact h3.lt hl⟩
    by_cases hi : i = b
    · by_cases hj : j = b
      · rw [hi, hj]
      · obtain ⟨_, _, h3⟩ := old j y g q hj e2 l2 h2
        rw [hi, addMu_same] at h1
        simp only [Option.some.injEq, Prod.mk.injEq] at h1
        omega
    · by_cases hj : j = b
      · obtain ⟨_, _, h3⟩ := old i x g p hi e1 l1 h1
        rw [hj, addMu_same] at h2
        simp only [Option.some.injEq, Prod.mk.injEq] at h2
        omega
      · obtain ⟨k1, k2, _⟩ := old i x g p hi e1 l1 h1
        obtain ⟨k3, k4, _⟩ := old j y g q hj e2 l2 h2
        exact m.inj i j x y g p q k2 l1 k4 l2 k1 k3

theorem RepL.ext {w' : World} {O' X' : Nat → Prop} {μ' : Mu} (hX : ∀ g, X g → O g) (h : Ext w O X μ w' O' X' μ') {cs : List AV} {vs : Array Value} (r : RepL w O X μ cs vs) : RepL w' O' X' μ' cs vs :=
  ⟨r.1, fun i a u e1 e2 => (r.2.1 i a u e1 e2).ext hX h, r.2.2⟩

theorem RepL.br {cs : List AV} {vs : Array Value} {ty : TypeId} {g : Nat} (r : RepL w O X μ cs vs) (h : w.heap[g]? = some (.cells vs ty (0, 0))) : BR P md w O X μ (.cells cs) g 0 := by
  obtain ⟨h1, h2, h3⟩ := r
  refine ⟨vs, ty, h, by omega, fun i a e => ?_⟩
  have hi : i < vs.size := by rw [h1]; exact (List.getElem?_eq_some_iff.1 e).1
  exact ⟨vs[i], by simp [hi], h3 i _ (Array.getElem?_eq_getElem hi), h2 i a _ e (Array.getElem?_eq_getElem hi)⟩

theorem length_rep (z : List AV) : ∀ n, (rep n z).length = n * z.length
  | 0 => by simp [rep]
  | n + 1 => by simp [rep, length_rep z n, Nat.add_mul]; omega

theorem get_rep (z : List AV) (hz : 0 < z.length) : ∀ (n k : Nat), k < n * z.length → (rep n z)[k]? = z[k % z.length]?
  | 0, k, h => by simp at h
  | n + 1, k, h => by
    simp only [rep]
    by_cases hk : k < z.length
    · rw [List.getElem?_append_left hk, Nat.mod_eq_of_lt hk]
    · rw [List.getElem?_append_right (by omega), get_rep z hz n _ (by rw [Nat.add_mul] at h; omega), ← Nat.mod_eq_sub_mod (by omega)]

/-- A row of zero values. -/
theorem repL_rep {z : List AV} {zv : Value} (h : RepL w O X μ z zv.cells) (n : Nat) (hz : 0 < z.length) :
    RepL w O X μ (rep n z) ((Array.range (n * z.length)).map (zv.cells[· % zv.cells.size]!)) := by
  obtain ⟨h1, h2, h3⟩ := h
  have key : ∀ (i : Nat) (u : Value), ((Array.range (n * z.length)).map (zv.cells[· % zv.cells.size]!))[i]? = some u → i < n * z.length ∧ zv.cells[i % z.length]? = some u := by
    intro i u e
    simp only [Array.getElem?_map, Option.map_eq_some_iff] at e
    obtain ⟨j, hj, rfl⟩ := e
    have hi : i < n * z.length := by have := (Array.getElem?_eq_some_iff.1 hj).1; simpa using this
    have hji : j = i := by have := (Array.getElem?_eq_some_iff.1 hj).2; simpa using this.symm
    subst hji
    refine ⟨hi, ?_⟩
    have hlt : j % z.length < zv.cells.size := by rw [h1]; exact Nat.mod_lt _ hz
    rw [h1, getElem!_pos zv.cells (j % z.length) hlt]
    exact Array.getElem?_eq_getElem hlt
  refine ⟨by simp [length_rep], fun i a u ea eu => ?_, fun i u eu => ?_⟩
  · obtain ⟨k1, k2⟩ := key i u eu
    rw [get_rep z hz n i k1] at ea
    exact h2 _ a u ea k2
  · exact h3 _ u (key i u eu).2

theorem rep_fill_len {E : Tm} (pl : Nat → Option (Nat × Nat)) : ∀ {ps : List (Nat × Operand)} {qs : List (Nat × Nat × Od)} {cs out : List AV}, compParts pl ps = some qs → fill E cs qs = some out → out.length = cs.length
  | [], qs, cs, out, h, hf => by
    simp only [compParts, Option.some.injEq] at h
    subst h
    simp only [fill, Option.some.injEq] at hf
    rw [hf]
  | (i, x) :: ps, qs, cs, out, h, hf => by
    simp only [compParts] at h
    split at h
    · rename_i o s y l h1 h2 h3
      simp only [Option.some.injEq] at h
      subst h
      simp only [fill] at hf
      split at hf
      · split at hf
        · rename_i hc
          rw [rep_fill_len pl h3 hf]
          simp only [Ev.put, List.length_append, List.length_take, List.length_drop]
          omega
        · cases hf
      · cases hf
    · cases h

theorem exec_a {s : Sem Value} {u : Value} {w' : World} (h : s.run P w = .ok u w') : (do pure (Next.value (← s)) : Sem Next).run P w = .ok (.value u) w' := by
  simp [h]

/-- What kind of instruction an operation comes to. -/
def opKd : Op → Kd
  | .alloc _ | .box .. | .buildSlice .. | .makeMap .. | .makeSlice .. => .a
  | .store .. | .mapUpdate .. | .insert .. => .w
  | .call c => match c.callee with
    | .value (.func _) => .p
    | .value _ => .q
    | .builtin .append => .w
    | .builtin .copy => .w
    | .builtin .clear => .w
    | _ => .r
  | _ => .r

theorem comp_kd {op : Op} {i : Ins} (h : compOp P op = some i) : i.kd = opKd op := by
  cases op with
  | call c =>
    simp only [compOp] at h
    split at h
    · split at h
      · rename_i hcal; simp only [Option.some.injEq] at h; subst h; simp only [opKd, hcal]; rfl
      · rename_i x hx hcal
        simp only [Option.map_eq_some_iff] at h
        obtain ⟨y, _, rfl⟩ := h
        simp only [opKd, hcal]
        cases x <;> first | rfl | exact absurd rfl (hx _)
      · rename_i b hcal
        simp only [opKd, hcal]
        unfold compBuiltin at h
        split at h
        · split at h <;> first | (simp only [Option.some.injEq] at h; subst h; rfl) | cases h
        · (repeat' split at h) <;> first | (simp only [Option.some.injEq] at h; subst h; rfl) | cases h
        · (repeat' split at h) <;> first | (simp only [Option.some.injEq] at h; subst h; rfl) | cases h
        · (repeat' split at h) <;> first | (simp only [Option.some.injEq] at h; subst h; rfl) | cases h
        · simp only [Option.some.injEq] at h; subst h; rfl
        · simp only [Option.some.injEq] at h; subst h; rfl
        · cases h
      · cases h
    · cases h
  | makeFunc fn fs cs =>
    cases fn <;> simp only [compOp, reduceCtorEq] at h
    (repeat' split at h) <;> first | (simp only [Option.some.injEq] at h; subst h; rfl) | cases h
  | makeMap t r => cases r <;> simp only [compOp, reduceCtorEq, Option.some.injEq] at h; subst h; rfl
  | index t x ix =>
    cases x with
    | const v => cases v <;> (simp only [compOp] at h; (repeat' split at h) <;> first | (simp only [Option.some.injEq] at h; subst h; rfl) | cases h)
    | _ => simp only [compOp] at h; (repeat' split at h) <;> first | (simp only [Option.some.injEq] at h; subst h; rfl) | cases h
  | _ =>
    simp only [compOp, Option.map_eq_some_iff, reduceCtorEq] at h <;>
    first
      | (obtain ⟨y, _, rfl⟩ := h; rfl)
      | ((repeat' split at h) <;> first | (simp only [Option.some.injEq] at h; subst h; rfl) | (cases h; done) | (simp only [Option.map_eq_some_iff] at h; obtain ⟨y, _, rfl⟩ := h; rfl))

/-- What makes memory. -/
theorem simA (m : Mem P md w O X μ H L) {E : Tm} {a : Act} (hE : SimT w O X μ E a) {o : Oper} {i : Ins} {ab : AB} {p : Nat → AV} (hc : compOp P o.op = some i) (hv : evA H E i = some (ab, p)) :
    ∃ ob u, (execOp a.eval o).run P w = .ok (.value u) (w.alloc ob) ∧ ab.live ∧ ∀ b, μ H.length b = none →
      BR P md (w.alloc ob) (addP O w.heap.size) (addP X w.heap.size) (addMu μ H.length b (w.heap.size, 0)) ab w.heap.size 0 ∧
      Rep (w.alloc ob) (addP O w.heap.size) (addP X w.heap.size) (addMu μ H.length b (w.heap.size, 0)) (p b) u := by
  obtain ⟨dst, op, type, pos, after, guard⟩ := o
  simp only at hc
  have row : ∀ {cs : List AV} {vs : Array Value} {ty : TypeId}, RepL w O X μ cs vs → ∀ b, μ H.length b = none →
      BR P md (w.alloc (.cells vs ty)) (addP O w.heap.size) (addP X w.heap.size) (addMu μ H.length b (w.heap.size, 0)) (.cells cs) w.heap.size 0 := fun hr b hb =>
    (hr.ext m.xo (ext_alloc (H := H) _ hb)).br (heap_alloc_new w _)
  have ptr : ∀ (ob : Obj) (b : Nat), Rep (w.alloc ob) (addP O w.heap.size) (addP X w.heap.size) (addMu μ H.length b (w.heap.size, 0)) (.ptr H.length b 0) (.pointer (some ⟨w.heap.size, 0, none⟩)) := fun ob b =>
    .ptr _ _ 0 _ 0 (addMu_same _ _ _ _)
  have own : ∀ (vs : Array Value) (ty : TypeId) (b n sz c : Nat), 0 < sz → n ≤ c → vs.size = c * sz →
      Rep (w.alloc (.cells vs ty)) (addP O w.heap.size) (addP X w.heap.size) (addMu μ H.length b (w.heap.size, 0)) (.own H.length b 0 n sz false) (.slice (some ⟨w.heap.size, 0, none⟩) n c) := fun vs ty b n sz c h1 h2 h3 =>
    .own _ _ 0 n sz false _ 0 c _ (addMu_same _ _ _ _) h1 h2 (fun _ => rfl) (fun e => by cases e) (fun _ => ⟨ty, by simp only [World.shape?, heap_alloc_new, h3, Nat.zero_add]⟩)
  cases op with
  | alloc t =>
    simp only [compOp, Option.map_eq_some_iff] at hc
    obtain ⟨z, hz, rfl⟩ := hc
    simp only [evA, Option.some.injEq, Prod.mk.injEq] at hv
    obtain ⟨rfl, rfl⟩ := hv
    obtain ⟨zv, hz1, hz2⟩ := tzero_spec hz
    refine ⟨.cells zv.cells t, _, ?_, AB.cells_live, fun b hb => ⟨row (repL_zero (t := t) hz2) b hb, ptr _ b⟩⟩
    simp [execOp, Instr.alloc, run_zeroValue hz1, newVar, newRow]
  | box t x =>
    simp only [compOp, Option.map_eq_some_iff] at hc
    obtain ⟨y, hy, rfl⟩ := hc
    simp only [evA] at hv
    split at hv
    · rename_i vs hvs
      simp only [Option.some.injEq, Prod.mk.injEq] at hv
      obtain ⟨rfl, rfl⟩ := hv
      have hn : y.ev E ≠ .un := by intro e; rw [e] at hvs; cases hvs
      refine ⟨.cells (a.eval x).cells t, _, ?_, AB.cells_live, fun b hb => ⟨row (rep_lay (rep_od hE hy hn) hvs) b hb, ptr _ b⟩⟩
      simp [execOp, Instr.box, newVar, newRow]
    · cases hv
  | buildSlice t n ps =>
    simp only [compOp] at hc
    split at hc
    · rename_i e he
      split at hc
      · rename_i sz z hs hz
        split at hc
        · rename_i hle
          simp only [Option.map_eq_some_iff] at hc
          obtain ⟨qs, hq, rfl⟩ := hc
          simp only [evA] at hv
          split at hv
          · rename_i cs hcs
            simp only [Option.some.injEq, Prod.mk.injEq] at hv
            obtain ⟨rfl, rfl⟩ := hv
            obtain ⟨zv, hz1, hz2⟩ := tzero_spec hz
            have h0 := repL_rep (repL_zero (w := w) (O := O) (X := X) (μ := μ) (t := e) hz2) n (by omega)
            obtain ⟨B, hB, hrB⟩ := rep_fill hE (fun i => some (i * sz, sz)) hq h0 hcs
            have hBn : B.size = n * sz := by
              have := (rep_fill_len _ hq hcs).trans (length_rep z n)
              rw [hrB.1, this, hle.2.2]
            refine ⟨.cells B e, .slice (some ⟨w.heap.size, 0, none⟩) n n, ?_, AB.cells_live, fun b hb => ⟨row hrB b hb, own B e b n sz n hle.2.1 (Nat.le_refl _) hBn⟩⟩
            have hB' : Instr.fill (fun i => some (i * sz, sz)) ((Array.range (n * sz)).map (zv.cells[· % zv.cells.size]!)) (ps.map fun (i, x) => (i, a.eval x)).toList = some B := by
              rw [← hB, hle.2.2]
              congr 1
              simp
            refine exec_a ?_
            unfold Instr.buildSlice
            simp only [Sem.run_bind, run_underlying (sliceOf_spec he), Result.andThen_ok, run_sizeOf hs]
            rw [if_neg (by omega)]
            by_cases hns : n * sz = 0
            · have r0 : ∀ f : Nat → Value, (Array.range 0).map f = #[] := fun f => by apply Array.ext'; simp
              rw [hns] at hB' ⊢
              rw [r0] at hB'
              simp only [if_true, Sem.run_bind, Sem.run_pure, Result.andThen_ok, r0]
              rw [hB']
              simp [newRow]
            · simp only [if_neg hns, Sem.run_bind, run_zeroValue hz1, Result.andThen_ok, Sem.run_pure]
              rw [hB']
              simp [newRow]
          · cases hv
        · cases hc
      · cases hc
    · cases hc
  | makeMap t r =>
    cases r with
    | some r => simp [compOp] at hc
    | none =>
      simp only [compOp, Option.some.injEq] at hc
      subst hc
      simp only [evA, Option.some.injEq, Prod.mk.injEq] at hv
      obtain ⟨rfl, rfl⟩ := hv
      refine ⟨.map #[] 0, .map (some w.heap.size), ?_, AB.map_live, fun b hb => ⟨⟨#[], 0, heap_alloc_new w _, rfl, fun i k v e e1 => by simp at e1⟩, .mp _ _ _ 0 (addMu_same _ _ _ _)⟩⟩
      simp [execOp, Instr.makeMap]
  | makeSlice t l c =>
    simp only [compOp] at hc
    split at hc
    · rename_i e he
      split at hc
      · rename_i sz by_ z l' c' hs hby hz hl hcc
        split at hc
        · rename_i hpos
          simp only [Option.some.injEq] at hc
          subst hc
          simp only [evA] at hv
          split at hv
          · rename_i kl n kc q hln hcq
            split at hv
            · rename_i hb
              simp only [Option.some.injEq, Prod.mk.injEq] at hv
              obtain ⟨rfl, rfl⟩ := hv
              obtain ⟨zv, hz1, hz2⟩ := tzero_spec hz
              obtain ⟨hb0, hb1, hb2, hb3⟩ := hb
              have h0 := repL_rep (repL_zero (w := w) (O := O) (X := X) (μ := μ) (t := e) hz2) q.toNat (by omega)
              obtain ⟨ti, hti, hts⟩ := info_of_size hs
              obtain ⟨ti2, hti2, htz⟩ := Option.bind_eq_some_iff.1 hz1
              rw [hti] at hti2
              simp only [Option.some.injEq] at hti2
              subst hti2
              have hbytes : ti.bytes = by_ := by simpa [tbytes, hti] using hby
              have hL := asInt_rep (rep_od hE hl (rep_ne hln (by simp))) hln
              have hC := asInt_rep (rep_od hE hcc (rep_ne hcq (by simp))) hcq
              have hr := run_make (P := P) w t e ti zv (sliceOf_spec he) hti htz kl kc n q hb0 hb1 (by rw [hbytes, Int.mul_comm]; omega) (by omega)
              refine ⟨_, _, exec_a (by rw [hL, hC]; exact hr), AB.cells_live, fun b hb => ⟨row (by rw [hts]; rw [← hpos.2]; exact h0) b hb, own _ e b n.toNat sz q.toNat hpos.1 (by omega) (by rw [size_madeCells, hts])⟩⟩
            · cases hv
          · cases hv
        · cases hc
      · cases hc
    · cases hc
  | _ =>
    exfalso
    have hk : i.kd = .a := by
      cases i <;> first | rfl | (simp only [evA, reduceCtorEq] at hv)
    rw [comp_kd hc] at hk
    first
      | (simp only [opKd, reduceCtorEq] at hk; done)
      | (simp only [opKd] at hk; (repeat' split at hk) <;> cases hk)

end
end Go.Ev
