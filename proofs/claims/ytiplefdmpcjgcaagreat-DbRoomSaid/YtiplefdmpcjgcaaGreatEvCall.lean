/- Pure calls: what is handed over, what comes back. -/
import Derived.Test.YtiplefdmpcjgcaaGreatEvWriteB
import Derived.Test.YtiplefdmpcjgcaaGreatEvLim
namespace Go.Ev
open Go Go.RowKit

def noX : Nat → Prop := fun _ => False

section
variable {P : Program} {md : Nat → Md} {w : World} {O X : Nat → Prop} {μ : Mu} {H : List Lv} {L : Lv}

theorem Rep.down {X1 : Nat → Prop} (hX : ∀ g, X1 g → X g) {v : AV} {u : Value} (r : Rep w O X μ v u) : Rep w O X1 μ v u := by
  induction r with
  | bool b => exact .bool b
  | int k n => exact .int k n
  | nilp => exact .nilp
  | nilf => exact .nilf
  | ptr l b i g o e => exact .ptr l b i g o e
  | mp l b g o e => exact .mp l b g o e
  | yl l b g e => exact .yl l b g e
  | ro b cs g o U hb hc _ hcl ih => exact .ro b cs g o U (fun hne => (hb hne).imp (fun q => ⟨q.1, fun k => q.2 (hX _ k)⟩) id) hc ih hcl
  | sln m e => exact .sln m e
  | sl m xs A sz c U hz hs hx hl hc hb hcell _ hcl ih => exact .sl m xs A sz _ U hz hs hx hl hc (fun hne => ⟨(hb hne).1, (hb hne).2.imp (fun q => ⟨q.1, fun k => q.2 (hX _ k)⟩) id⟩) hcell ih hcl
  | own l b i n sz cl g o c A e hs hn hA hcl hsh => exact .own l b i n sz cl g o c A e hs hn hA hcl hsh
  | fn f cap vs hs _ ih => exact .fn f cap vs hs ih
  | agg cs vs hs _ h1 ih => exact .agg cs vs hs ih h1
  | tup cs vs hs _ ih => exact .tup cs vs hs ih

theorem flatten_get {sz : Nat} : ∀ (xs : List (List AV)), (∀ x ∈ xs, x.length = sz) → ∀ (j i : Nat) (x : List AV) (a : AV), xs[j]? = some x → x[i]? = some a → xs.flatten[j * sz + i]? = some a
  | [], _, j, i, x, a, e, _ => by simp at e
  | y :: xs, h, 0, i, x, a, e, e2 => by
    simp only [List.getElem?_cons_zero, Option.some.injEq] at e
    subst e
    have hi := (List.getElem?_eq_some_iff.1 e2).1
    rw [List.flatten_cons, Nat.zero_mul, Nat.zero_add, List.getElem?_append_left hi]
    exact e2
  | y :: xs, h, j + 1, i, x, a, e, e2 => by
    have hy := h y (by simp)
    rw [List.flatten_cons, List.getElem?_append_right (by rw [hy, Nat.add_mul]; omega)]
    rw [← flatten_get xs (fun z hz => h z (by simp [hz])) j i x a (by simpa using e) e2]
    congr 1
    rw [hy, Nat.add_mul]
    omega

/-- Of what rows of cells a slice that is owned is. -/
theorem own_rows (m : Mem P md w O X μ H L) {l b i n sz : Nat} {cl : Bool} {u : Value} {xs : List (List AV)} (r : Rep w O X μ (.own l b i n sz cl) u) (h : Ev.elems H L (.own l b i n sz cl) = some xs) :
    ∃ (A : Addr) (c : Nat), u = .slice (some A) xs.length c ∧ 0 < sz ∧ (∀ x ∈ xs, x.length = sz) ∧ xs.length ≤ c ∧ (cl = true → c = xs.length) ∧
      (xs ≠ [] → A.spot = none ∧ ∃ g o, μ l b = some (g, o) ∧ A.block = g) ∧
      ∀ j x, xs[j]? = some x → ∀ i a, x[i]? = some a → ∃ v : Value, w.cell? ⟨A.block, A.off + (j * sz + i), none⟩ = some v ∧ v.oneCell' = true ∧ Rep w O X μ a v := by
  obtain ⟨A, c, h1, h2, h3, h4⟩ := m.elems r h
  simp only [Ev.elems] at h
  split at h
  · split at h
    · rename_i cs hcs hle
      simp only [Option.some.injEq] at h
      obtain ⟨k1, k2, _⟩ := chunk_len (sz := sz) n (cs.drop i) (by simp; omega)
      rw [h] at k1 k2
      cases r with
      | own _ _ _ _ _ _ g o c' A' hmu hsp hn hA hcl hsh =>
        simp only [Value.slice.injEq] at h1
        obtain ⟨rfl, _, rfl⟩ := h1
        refine ⟨A', c', by rw [k1], hsp, k2, h2, fun q => by rw [k1]; exact hcl q, fun hne => ?_, fun j x ej i' a ei => ?_⟩
        · have hc0 : c' ≠ 0 := by
            intro e
            rw [e] at h2
            exact hne (List.eq_nil_of_length_eq_zero (by omega))
          rw [hA hc0]
          exact ⟨rfl, g, o, hmu, rfl⟩
        · obtain ⟨_, v, q1, q2, q3⟩ := h4 sz hsp k2 A' rfl _ a (flatten_get xs k2 j i' x a ej ei)
          exact ⟨v, q1, q2, q3⟩
    · cases h
  · cases h

/-- The same, with the values by name. -/
theorem own_vals {A : Addr} {sz : Nat} {xs : List (List AV)} (h : ∀ j x, xs[j]? = some x → ∀ i a, x[i]? = some a → ∃ v : Value, w.cell? ⟨A.block, A.off + (j * sz + i), none⟩ = some v ∧ v.oneCell' = true ∧ Rep w O X μ a v) :
    ∃ U : Nat → Nat → Value, ∀ j x, xs[j]? = some x → ∀ i a, x[i]? = some a → (w.cell? ⟨A.block, A.off + (j * sz + i), none⟩ = some (U j i) ∧ (U j i).oneCell' = true) ∧ Rep w O X μ a (U j i) := by
  refine ⟨fun j i => (w.cell? ⟨A.block, A.off + (j * sz + i), none⟩).getD undef, fun j x ej i a ei => ?_⟩
  obtain ⟨v, q1, q2, q3⟩ := h j x ej i a ei
  have e : (w.cell? ⟨A.block, A.off + (j * sz + i), none⟩).getD undef = v := by rw [q1]; rfl
  simp only [e]
  exact ⟨⟨q1, q2⟩, q3⟩

theorem allM_len {α β : Type} {f : α → Option β} {l : List α} {r : List β} (h : allM f l = some r) : r.length = l.length := (allM_spec h).1

theorem allM_get {α β : Type} {f : α → Option β} {l : List α} {r : List β} (h : allM f l = some r) {i : Nat} {b : β} (e : r[i]? = some b) : ∃ a, l[i]? = some a ∧ f a = some b := by
  have hi : i < l.length := by rw [← allM_len h]; exact (List.getElem?_eq_some_iff.1 e).1
  exact ⟨l[i], List.getElem?_eq_getElem hi, (allM_spec h).2 i _ b (List.getElem?_eq_getElem hi) e⟩

theorem borrow_sound (m : Mem P md w O X μ H L) : ∀ (d : Nat) (v v' : AV) (u : Value), Rep w O X μ v u → borrow H L d v = some v' → Rep w O noX μ v' u := by
  have dn : ∀ {v : AV} {u : Value}, Rep w O X μ v u → Rep w O noX μ v u := fun r => r.down (fun g h => h.elim)
  intro d
  induction d with
  | zero =>
    intro v v' u r h
    cases v <;> simp only [borrow, Option.some.injEq, reduceCtorEq] at h <;> (subst h; exact dn r)
  | succ d ih =>
    intro v v' u r h
    cases v with
    | own l b i n sz cl =>
      simp only [borrow] at h
      split at h
      · rename_i xs hxs
        simp only [Option.map_eq_some_iff] at h
        obtain ⟨ys, hys, rfl⟩ := h
        obtain ⟨A, c, rfl, hsz, hlen, hc, hcl, hne, hcells⟩ := own_rows m r hxs
        obtain ⟨U, hU⟩ := own_vals hcells
        rw [← allM_len hys]
        refine .sl _ ys A sz c U rfl hsz (fun y hy => ?_) (by rw [allM_len hys]; exact hc) (fun q => by rw [allM_len hys]; exact hcl q) (fun q => ⟨(hne (fun e => q ?_)).1, .inl ⟨rfl, fun k => k⟩⟩)
          (fun j y ej i a ei => ?_) (fun j y ej i a ei => ?_) (fun q => by cases q)
        · obtain ⟨j, hj⟩ := List.getElem?_of_mem hy
          obtain ⟨x, hx, hxy⟩ := allM_get hys hj
          rw [allM_len hxy]
          exact hlen x (List.mem_of_getElem? hx)
        · exact List.eq_nil_of_length_eq_zero (by rw [allM_len hys, e]; rfl)
        · obtain ⟨x, hx, hxy⟩ := allM_get hys ej
          obtain ⟨a', ha, _⟩ := allM_get hxy ei
          exact (hU j x hx i a' ha).1
        · obtain ⟨x, hx, hxy⟩ := allM_get hys ej
          obtain ⟨a', ha, hab⟩ := allM_get hxy ei
          exact ih a' a _ (hU j x hx i a' ha).2 hab
      · cases h
    | agg cs =>
      simp only [borrow, Option.map_eq_some_iff] at h
      obtain ⟨ys, hys, rfl⟩ := h
      cases r with
      | agg _ vs h1 h2 h3 =>
        refine .agg ys vs (by rw [h1, allM_len hys]) (fun i a x ea ex => ?_) h3
        obtain ⟨a', ha, hab⟩ := allM_get hys ea
        exact ih a' a x (h2 i a' x ha ex) hab
    | _ =>
      simp only [borrow, Option.some.injEq] at h
      subst h
      exact dn r

theorem clean_of_free {v : AV} {u : Value} (r : Rep w O X μ v u) : ∀ d, freeC d v = true → Clean v := by
  induction r with
  | bool b => exact fun _ _ => .bool b
  | int k n => exact fun _ _ => .int k n
  | nilp => exact fun _ _ => .nilp
  | nilf => exact fun _ _ => .nilf
  | ptr l b i g o e => intro d h; cases d <;> simp [freeC] at h
  | mp l b g o e => intro d h; cases d <;> simp [freeC] at h
  | yl l b g e => intro d h; cases d <;> simp [freeC] at h
  | ro b cs g o U hb hc _ hcl ih =>
    intro d h
    have hb' : b = false := by cases d <;> simpa [freeC] using h
    exact .ro b cs hb' (hcl hb')
  | sln m e =>
    intro d h
    have hb' : m.b = false := by cases d <;> simpa [freeC] using h
    exact .sl m [] hb' (fun x hx => by simp at hx)
  | sl m xs A sz c U hz hs hx hl hc hb hcell _ hcl ih =>
    intro d h
    have hb' : m.b = false := by cases d <;> simpa [freeC] using h
    exact .sl m xs hb' (hcl hb')
  | own => intro d h; cases d <;> simp [freeC] at h
  | fn f cap vs hs _ ih =>
    intro d h
    cases d with
    | zero =>
      have : cap = [] := by simpa [freeC] using h
      subst this
      exact .fn f [] (fun a ha => by simp at ha)
    | succ d =>
      simp only [freeC, List.all_eq_true] at h
      refine .fn f cap (fun a ha => ?_)
      obtain ⟨i, hi⟩ := List.getElem?_of_mem ha
      rcases un_dec a with rfl | hn
      · exact .un
      · have hlt : i < vs.size := by rw [hs]; exact (List.getElem?_eq_some_iff.1 hi).1
        exact ih i a vs[i] hi (Array.getElem?_eq_getElem hlt) hn d (h a ha)
  | agg cs vs hs _ h1 ih =>
    intro d h
    cases d with
    | zero => simp [freeC] at h
    | succ d =>
      simp only [freeC, List.all_eq_true] at h
      refine .agg cs (fun a ha => ?_)
      obtain ⟨i, hi⟩ := List.getElem?_of_mem ha
      have hlt : i < vs.size := by rw [hs]; exact (List.getElem?_eq_some_iff.1 hi).1
      exact ih i a vs[i] hi (Array.getElem?_eq_getElem hlt) d (h a ha)
  | tup cs vs hs _ ih =>
    intro d h
    cases d with
    | zero => simp [freeC] at h
    | succ d =>
      simp only [freeC, List.all_eq_true] at h
      refine .tup cs (fun a ha => ?_)
      obtain ⟨i, hi⟩ := List.getElem?_of_mem ha
      rcases un_dec a with rfl | hn
      · exact .un
      · have hlt : i < vs.size := by rw [hs]; exact (List.getElem?_eq_some_iff.1 hi).1
        exact ih i a vs[i] hi (Array.getElem?_eq_getElem hlt) hn d (h a ha)

theorem live_of {l b : Nat} (h : liveB H L l b = true) : ∃ ab, getB H L l b = some ab ∧ ab.live := by
  unfold liveB at h
  split at h
  · rename_i cs e; exact ⟨_, e, AB.cells_live⟩
  · rename_i es e; exact ⟨_, e, AB.map_live⟩
  · cases h

section
variable {O1 X1 : Nat → Prop} {μ1 : Mu}

/-- A slice that a call made, frozen. -/
theorem freeze_own (m : Mem P md w O1 X1 μ1 H L) (hnew : ∀ g, X1 g → ¬ O g) {l b i n sz : Nat} {cl : Bool} {u : Value} {xs ys : List (List AV)} {f : AV → Option AV} (r : Rep w O1 X1 μ1 (.own l b i n sz cl) u) (hl : ¬ l < H.length)
    (hxs : Ev.elems H L (.own l b i n sz cl) = some xs) (hys : allM (allM f) xs = some ys) (ih : ∀ a a' x, Rep w O1 X1 μ1 a x → f a = some a' → Clean a' ∧ Rep w O X μ a' x) :
    Clean (.sl ⟨false, false, cl⟩ ys) ∧ Rep w O X μ (.sl ⟨false, false, cl⟩ ys) u := by
  have hlb : ∃ ab, L[b]? = some ab ∧ ab.live ∧ l = H.length := by
    simp only [Ev.elems] at hxs
    split at hxs
    · rename_i cs e
      unfold getB at e
      split at e
      · rename_i hl'; exact ⟨_, e, AB.cells_live, hl'⟩
      · cases e
    · cases hxs
  obtain ⟨ab, hab, hlive, rfl⟩ := hlb
  obtain ⟨g, o, hmu, hXg, _⟩ := m.cur b ab hab hlive
  obtain ⟨A, c, rfl, hsz, hlen, hc, hcl, hne, hcells⟩ := own_rows m r hxs
  obtain ⟨U, hU⟩ := own_vals hcells
  have hcln : ∀ y ∈ ys, ∀ a ∈ y, Clean a := by
    intro y hy a ha
    obtain ⟨j, hj⟩ := List.getElem?_of_mem hy
    obtain ⟨k, hk⟩ := List.getElem?_of_mem ha
    obtain ⟨x, hx, hxy⟩ := allM_get hys hj
    obtain ⟨a', ha', hab⟩ := allM_get hxy hk
    exact (ih a' a _ (hU j x hx k a' ha').2 hab).1
  refine ⟨.sl _ _ rfl hcln, ?_⟩
  rw [← allM_len hys]
  refine .sl _ ys A sz c U rfl hsz (fun y hy => ?_) (by rw [allM_len hys]; exact hc) (fun q => by rw [allM_len hys]; exact hcl q) (fun q => ?_)
    (fun j y ej i a ei => ?_) (fun j y ej i a ei => ?_) (fun _ => hcln)
  · obtain ⟨j, hj⟩ := List.getElem?_of_mem hy
    obtain ⟨x, hx, hxy⟩ := allM_get hys hj
    rw [allM_len hxy]
    exact hlen x (List.mem_of_getElem? hx)
  · obtain ⟨h1, g', o', h2, h3⟩ := hne (fun e => q (List.eq_nil_of_length_eq_zero (by rw [allM_len hys, e]; rfl)))
    rw [hmu] at h2
    simp only [Option.some.injEq, Prod.mk.injEq] at h2
    refine ⟨h1, .inr ?_⟩
    rw [h3, ← h2.1]
    exact hnew g hXg
  · obtain ⟨x, hx, hxy⟩ := allM_get hys ej
    obtain ⟨a', ha, _⟩ := allM_get hxy ei
    exact (hU j x hx i a' ha).1
  · obtain ⟨x, hx, hxy⟩ := allM_get hys ej
    obtain ⟨a', ha, hab⟩ := allM_get hxy ei
    exact (ih a' a _ (hU j x hx i a' ha).2 hab).2

theorem freezeC_sound (m : Mem P md w O1 X1 μ1 H L) (hO : ∀ g, O g → O1 g) (hnew : ∀ g, X1 g → ¬ O g) : ∀ (d : Nat) (v v' : AV) (u : Value), Rep w O1 X1 μ1 v u → freezeC H L d v = some v' → Clean v' ∧ Rep w O X μ v' u := by
  intro d
  have free : ∀ (d : Nat) (v v' : AV) (u : Value), Rep w O1 X1 μ1 v u → (if freeC d v then some v else none) = some v' → Clean v' ∧ Rep w O X μ v' u := by
    intro d v v' u r h
    split at h
    · rename_i hf
      simp only [Option.some.injEq] at h
      subst h
      have := clean_of_free r d hf
      exact ⟨this, r.clean hO this⟩
    · cases h
  induction d with
  | zero => intro v v' u r h; exact free 0 v v' u r (by cases v <;> exact h)
  | succ d ih =>
    intro v v' u r h
    cases v with
    | own l b i n sz cl =>
      simp only [freezeC] at h
      split at h
      · cases h
      · rename_i hl
        split at h
        · rename_i xs hxs
          simp only [Option.map_eq_some_iff] at h
          obtain ⟨ys, hys, rfl⟩ := h
          exact freeze_own m hnew r hl hxs hys (fun a a' x k1 k2 => ih a a' x k1 k2)
        · cases h
    | _ => exact free (d + 1) _ v' u r h

theorem freeV_sound (m : Mem P md w O1 X1 μ1 H L) (hO : ∀ g, O g → O1 g) (hmu : ∀ l b p, μ l b = some p → μ1 l b = some p) (hmu' : ∀ l b p, μ1 l b = some p → μ l b = none → X1 p.1) {v : AV} {u : Value} (r : Rep w O1 X1 μ1 v u) : ∀ d, freeV H L d v = true → Rep w O X μ v u := by
  have old : ∀ {l b g o}, μ1 l b = some (g, o) → l < H.length → liveB H L l b = true → μ l b = some (g, o) := by
    intro l b g o e hl hlv
    obtain ⟨ab, h1, h2⟩ := live_of hlv
    obtain ⟨g', o', h3, h4, _⟩ := m.old l b ab hl h1 h2
    rw [e] at h3
    simp only [Option.some.injEq, Prod.mk.injEq] at h3
    obtain ⟨rfl, rfl⟩ := h3
    cases hq : μ l b with
    | none => exact absurd (hmu' l b _ e hq) h4
    | some p => rw [hmu l b p hq] at e; exact e
  induction r with
  | bool b => exact fun _ _ => .bool b
  | int k n => exact fun _ _ => .int k n
  | nilp => exact fun _ _ => .nilp
  | nilf => exact fun _ _ => .nilf
  | ptr l b i g o e => intro d h; cases d <;> (simp [freeV] at h; exact .ptr l b i g o (old e h.1 h.2))
  | mp l b g o e => intro d h; cases d <;> (simp [freeV] at h; exact .mp l b g o (old e h.1 h.2))
  | yl l b g e => intro d h; cases d <;> simp [freeV] at h
  | ro b cs g o U hb hc r hcl ih =>
    intro d h
    have hb' : b = false := by cases d <;> simpa [freeV] using h
    exact (Rep.ro b cs g o U hb hc r hcl).clean hO (.ro b cs hb' (hcl hb'))
  | sln m e => exact fun _ _ => .sln m e
  | sl m xs A sz c U hz hs hx hl hc hb hcell r hcl ih =>
    intro d h
    have hb' : m.b = false := by cases d <;> simpa [freeV] using h
    exact (Rep.sl m xs A sz c U hz hs hx hl hc hb hcell r hcl).clean hO (.sl m xs hb' (hcl hb'))
  | own l b i n sz cl g o c A e hs hn hA hcl hsh => intro d h; cases d <;> (simp [freeV] at h; exact .own l b i n sz cl g o c A (old e h.1 h.2) hs hn hA hcl hsh)
  | fn f cap vs hs _ ih =>
    intro d h
    cases d with
    | zero =>
      have : cap = [] := by simpa [freeV] using h
      subst this
      exact .fn f [] vs hs (fun i a u e => by simp at e)
    | succ d =>
      simp only [freeV, List.all_eq_true] at h
      exact .fn f cap vs hs (fun i a x ea ex hn => ih i a x ea ex hn d (h a (List.mem_of_getElem? ea)))
  | agg cs vs hs _ h1 ih =>
    intro d h
    cases d with
    | zero => simp [freeV] at h
    | succ d =>
      simp only [freeV, List.all_eq_true] at h
      exact .agg cs vs hs (fun i a x ea ex => ih i a x ea ex d (h a (List.mem_of_getElem? ea))) h1
  | tup cs vs hs _ ih =>
    intro d h
    cases d with
    | zero => simp [freeV] at h
    | succ d =>
      simp only [freeV, List.all_eq_true] at h
      exact .tup cs vs hs (fun i a x ea ex hn => ih i a x ea ex hn d (h a (List.mem_of_getElem? ea)))

theorem freeze_sound (m : Mem P md w O1 X1 μ1 H L) (hO : ∀ g, O g → O1 g) (hnew : ∀ g, X1 g → ¬ O g) (hmu : ∀ l b p, μ l b = some p → μ1 l b = some p) (hmu' : ∀ l b p, μ1 l b = some p → μ l b = none → X1 p.1) :
    ∀ (d : Nat) (v v' : AV) (u : Value), (v ≠ .un → Rep w O1 X1 μ1 v u) → freeze H L d v = some v' → v' ≠ .un → Rep w O X μ v' u := by
  intro d
  have free : ∀ (d : Nat) (v v' : AV) (u : Value), (v ≠ .un → Rep w O1 X1 μ1 v u) → (if freeV H L d v then some v else none) = some v' → v' ≠ .un → Rep w O X μ v' u := by
    intro d v v' u r h hn
    split at h
    · rename_i hf
      simp only [Option.some.injEq] at h
      subst h
      exact freeV_sound m hO hmu hmu' (r hn) d hf
    · cases h
  induction d with
  | zero => intro v v' u r h; exact free 0 v v' u r (by cases v <;> exact h)
  | succ d ih =>
    intro v v' u r h hn
    cases v with
    | own l b i n sz cl =>
      have r := r (by simp)
      simp only [freeze] at h
      split at h
      · rename_i hl
        split at h
        · rename_i hlv
          simp only [Option.some.injEq] at h
          subst h
          exact freeV_sound m hO hmu hmu' r 0 (by simp [freeV, hl, hlv])
        · cases h
      · rename_i hl
        split at h
        · rename_i xs hxs
          simp only [Option.map_eq_some_iff] at h
          obtain ⟨ys, hys, rfl⟩ := h
          exact (freeze_own m hnew r hl hxs hys (fun a a' x k1 k2 => freezeC_sound m hO hnew d a a' x k1 k2)).2
        · cases h
    | agg cs =>
      simp only [freeze, Option.map_eq_some_iff] at h
      obtain ⟨ys, hys, rfl⟩ := h
      have r := r (by simp)
      cases r with
      | agg _ vs h1 h2 h3 =>
        refine .agg ys vs (by rw [h1, allM_len hys]) (fun i a x ea ex => ?_) h3
        obtain ⟨a', ha, hab⟩ := allM_get hys ea
        refine ih a' a x (fun _ => h2 i a' x ha ex) hab (fun e => ?_)
        subst e
        have hr := h2 i a' x ha ex
        cases d <;> cases a' <;> simp only [freeze] at hab <;> first
          | exact hr.not_un
          | ((repeat' split at hab) <;> first | (cases hab; done) | (simp only [Option.map_eq_some_iff, reduceCtorEq, and_false, exists_false] at hab))
          | (simp only [Option.map_eq_some_iff, reduceCtorEq, and_false, exists_false] at hab)
    | tup cs =>
      simp only [freeze, Option.map_eq_some_iff] at h
      obtain ⟨ys, hys, rfl⟩ := h
      have r := r (by simp)
      cases r with
      | tup _ vs h1 h2 =>
        refine .tup ys vs (by rw [h1, allM_len hys]) (fun i a x ea ex hn => ?_)
        obtain ⟨a', ha, hab⟩ := allM_get hys ea
        exact ih a' a x (fun hn' => h2 i a' x ha ex hn') hab hn
    | _ => exact free (d + 1) _ v' u r h hn

end
end
end Go.Ev
