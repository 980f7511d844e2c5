/- Arguments: what came in, as the evaluator takes it. -/
import Derived.Test.YtiplefdmpcjgcaaGreatEvCode
import Derived.OpenShut
import Derived.ChangeArms
import Derived.SizedLaws
namespace Go.Ev
open Go Go.RowKit

/-- What a type's values look like. -/
inductive Sh (P : Program) : TypeId → List AV → Prop
  | bool {t : TypeId} (b : Bool) : P.underlying t = some .bool → Sh P t [.bool b]
  | int {t : TypeId} (k : IntKind) (n : Int) : P.underlying t = some (.int k) → (Lit.int k n).wf = true → Sh P t [.int k n]
  | slice {t e : TypeId} (m : SM) (xs : List (List AV)) : P.underlying t = some (.slice e) → m.b = false → (m.z = true → xs = []) → xs.length * P.bytesOf e ≤ reachBytes → (∀ x ∈ xs, Sh P e x) → Sh P t [.sl m xs]
  | struct {t : TypeId} (fs : Array Field) (cs : List AV) : P.underlying t = some (.struct fs) → cs.length = P.cellsOf t → (∀ f ∈ fs.toList, Sh P f.type ((cs.drop f.offset).take (P.cellsOf f.type))) → Sh P t cs
  | array {t e : TypeId} (n : Nat) (cs : List AV) : P.underlying t = some (.array n e) → cs.length = n * P.cellsOf e → (∀ i, i < n → Sh P e ((cs.drop (i * P.cellsOf e)).take (P.cellsOf e))) → Sh P t cs

/-- Do fields lie one behind the other? -/
def tiles (P : Program) : List Field → Nat → Nat → Bool
  | [], o, n => o == n
  | f :: fs, o, n => f.offset == o && tiles P fs (o + P.cellsOf f.type) n

/-- A type of whole numbers, bools, and slices, structs and arrays of such. -/
def okT (P : Program) : Nat → TypeId → Bool
  | 0, _ => false
  | d + 1, t =>
    match P.underlying t with
    | some .bool => true
    | some (.int _) => true
    | some (.slice e) => decide (0 < P.cellsOf e) && okT P d e
    | some (.struct fs) => tiles P fs.toList 0 (P.cellsOf t) && fs.toList.all fun f => okT P d f.type
    | some (.array n e) => decide (P.cellsOf t = n * P.cellsOf e) && okT P d e
    | _ => false

section
variable {H : Type} {enc : TypeId × Value → H} {P : Program} {w : World} {base : Nat} {spare : Nat → Bool} {held : Bool} {μ : Mu}

/-- What so many cells stand for. -/
def Cells (w : World) (μ : Mu) (cs : List AV) (vs : List Value) : Prop :=
  cs.length = vs.length ∧ ∀ (i : Nat) (a : AV) (u : Value), cs[i]? = some a → vs[i]? = some u → Rep w noX noX μ a u ∧ Clean a ∧ u.oneCell' = true

theorem Cells.append {cs ds : List AV} {vs us : List Value} (h : Cells w μ cs vs) (k : Cells w μ ds us) : Cells w μ (cs ++ ds) (vs ++ us) := by
  refine ⟨by simp [h.1, k.1], fun i a u ea eu => ?_⟩
  by_cases hi : i < cs.length
  · rw [List.getElem?_append_left hi] at ea
    rw [List.getElem?_append_left (by rw [← h.1]; exact hi)] at eu
    exact h.2 i a u ea eu
  · rw [List.getElem?_append_right (by omega)] at ea
    rw [List.getElem?_append_right (by rw [← h.1]; omega), ← h.1] at eu
    exact k.2 _ a u ea eu

theorem tiles_le : ∀ (fs : List Field) (o n : Nat), tiles P fs o n = true → o ≤ n
  | [], o, n, h => by simp [tiles] at h; omega
  | f :: fs, o, n, h => by
    simp only [tiles, Bool.and_eq_true, beq_iff_eq] at h
    have := tiles_le fs _ _ h.2
    omega

theorem cells_struct {vs : List Value} : ∀ (fs : List Field) (o : Nat), tiles P fs o vs.length = true →
    (∀ f ∈ fs, ∃ av, Cells w μ av ((vs.drop f.offset).take (P.cellsOf f.type)) ∧ Sh P f.type av) →
    ∃ cs, Cells w μ cs (vs.drop o) ∧ ∀ f ∈ fs, o ≤ f.offset ∧ Sh P f.type ((cs.drop (f.offset - o)).take (P.cellsOf f.type))
  | [], o, h, _ => by
    simp only [tiles, beq_iff_eq] at h
    refine ⟨[], ⟨by simp [h], fun i a u e => by simp at e⟩, fun f hf => by simp at hf⟩
  | f :: fs, o, h, hf => by
    simp only [tiles, Bool.and_eq_true, beq_iff_eq] at h
    obtain ⟨ho, ht⟩ := h
    obtain ⟨cs, h1, h2⟩ := cells_struct fs _ ht (fun g hg => hf g (by simp [hg]))
    obtain ⟨av, h3, h4⟩ := hf f (by simp)
    have hle := tiles_le fs _ _ ht
    have hlen : av.length = P.cellsOf f.type := by rw [h3.1]; simp; omega
    have hsplit : vs.drop o = (vs.drop f.offset).take (P.cellsOf f.type) ++ vs.drop (o + P.cellsOf f.type) := by
      rw [ho, ← List.drop_drop, List.take_append_drop]
    refine ⟨av ++ cs, ?_, fun g hg => ?_⟩
    · rw [hsplit]; exact h3.append h1
    · simp only [List.mem_cons] at hg
      rcases hg with rfl | hg
      · refine ⟨by omega, ?_⟩
        rw [show g.offset - o = 0 by omega, List.drop_zero, ← hlen, List.take_left']
        · exact h4
        · rfl
      · obtain ⟨k1, k2⟩ := h2 g hg
        refine ⟨by omega, ?_⟩
        rw [show g.offset - o = av.length + (g.offset - (o + P.cellsOf f.type)) by omega, List.drop_append, List.drop_eq_nil_of_le (by omega), List.nil_append, Nat.add_sub_cancel_left]
        exact k2

theorem cells_array {vs : List Value} {c n : Nat} {S : List AV → Prop} (hl : vs.length = n * c) : ∀ k, k ≤ n → (∀ i, i < n → ∃ av, Cells w μ av ((vs.drop (i * c)).take c) ∧ S av) →
    ∃ cs, Cells w μ cs (vs.take (k * c)) ∧ ∀ i, i < k → S ((cs.drop (i * c)).take c)
  | 0, _, _ => ⟨[], ⟨by simp, fun i a u e => by simp at e⟩, fun i hi => by omega⟩
  | k + 1, hk, h => by
    obtain ⟨cs, h1, h2⟩ := cells_array hl k (by omega) h
    obtain ⟨av, h3, h4⟩ := h k (by omega)
    have hkc : (k + 1) * c ≤ n * c := Nat.mul_le_mul_right _ hk
    have hkc1 : (k + 1) * c = k * c + c := by rw [Nat.add_mul]; omega
    have hlen : av.length = c := by rw [h3.1]; simp; omega
    have hcl : cs.length = k * c := by rw [h1.1]; simp; omega
    refine ⟨cs ++ av, ?_, fun i hi => ?_⟩
    · rw [hkc1, List.take_add]; exact h1.append h3
    · by_cases e : i = k
      · subst e
        rw [← hcl, List.drop_left', ← hlen, List.take_of_length_le (Nat.le_refl _)]
        · exact h4
        · rfl
      · have hik : (i + 1) * c ≤ k * c := Nat.mul_le_mul_right _ (by omega)
        rw [Nat.add_mul] at hik
        have := h2 i (by omega)
        rw [List.drop_append_of_le_length (by omega), List.take_append_of_le_length (by simp; omega)]
        exact this

theorem weightsAll_mem {e : TypeId} : ∀ {l : List (DataW H)} {d : DataW H}, d ∈ l → ∀ n ∈ d.weights P e, n ∈ DataW.weightsAll P e l
  | [], _, h, _, _ => by simp at h
  | a :: r, d, h, n, hn => by
    simp only [DataW.weightsAll, List.mem_append]
    simp only [List.mem_cons] at h
    rcases h with rfl | h
    · exact .inl hn
    · exact .inr (weightsAll_mem h n hn)

/-- Whatever was read, the evaluator has it. -/
theorem read_any : ∀ (fuel d : Nat) (t : TypeId) (vs : List Value) (x : DataW H × List MemPlace), okT P d t = true → DataW.trod enc P w base spare held fuel t vs = some x → (∀ n ∈ x.1.weights P t, n ≤ reachBytes) → ∃ cs, Cells w μ cs vs ∧ Sh P t cs := by
  intro fuel
  induction fuel using Nat.strongRecOn with
  | _ fuel ih =>
    intro d t vs x hok h hwt
    cases d with
    | zero => cases hok
    | succ d =>
      have one : ∀ (a : AV) (u : Value), Rep w noX noX μ a u → Clean a → u.oneCell' = true → Cells w μ [a] [u] := fun a u h1 h2 h3 => ⟨rfl, fun i b v eb ev => by
        cases i with
        | zero => simp at eb ev; subst eb ev; exact ⟨h1, h2, h3⟩
        | succ i => simp at eb⟩
      simp only [okT] at hok
      split at hok
      · rename_i hu
        obtain ⟨b, rfl, _⟩ := DataW.trod_bool hu h
        exact ⟨[.bool b], one _ _ (.bool b) (.bool b) rfl, .bool b hu⟩
      · rename_i k hu
        obtain ⟨n, rfl, _, hw⟩ := DataW.trod_int hu h
        exact ⟨[.int k n], one _ _ (.int k n) (.int k n) rfl, .int k n hu hw⟩
      · rename_i e hu
        simp only [Bool.and_eq_true, decide_eq_true_eq] at hok
        obtain ⟨hpos, hoke⟩ := hok
        rcases DataW.trod_slice hu h with ⟨rfl, _⟩ | ⟨a, len, cap, elems, rest, n, hn, rfl, hxe, _, hl, hm, hel, hat, _, _⟩
        · exact ⟨[.sl ⟨true, false, true⟩ []], one _ _ (.sln _ rfl) (.sl _ _ rfl (fun x hx => by simp at hx)) rfl, .slice _ _ hu rfl (fun _ => rfl) (by simp [reachBytes]) (fun x hx => by simp at hx)⟩
        · -- the elements
          have hwl : (elems.length + rest.length) * P.bytesOf e ≤ reachBytes := hwt _ (by rw [hxe]; simp [DataW.weights, hu])
          have hwe : ∀ y ∈ elems, ∀ n ∈ y.1.weights P e, n ≤ reachBytes := fun y hy n hn => hwt n (by
            rw [hxe]
            simp only [DataW.weights, hu, List.mem_cons, List.mem_append]
            exact .inr (.inl (weightsAll_mem (List.mem_map.2 ⟨y, hy, rfl⟩) n hn)))
          have key : ∀ i, i < len → ∃ cs us, Cells w μ cs us ∧ Sh P e cs ∧ us.length = P.cellsOf e ∧ ∀ j, j < P.cellsOf e → w.cell? ((a.add (i * P.cellsOf e)).add j) = us[j]? := by
            intro i hi
            have hi' := hat i hi
            rw [List.getElem?_eq_getElem (by omega)] at hi'
            obtain ⟨us, hus, htr⟩ := Option.bind_eq_some_iff.1 hi'
            obtain ⟨_, h1, h2⟩ := World.cells?_some hus
            obtain ⟨cs, k1, k2⟩ := ih n (by omega) d e us _ hoke htr (hwe _ (List.getElem_mem _))
            exact ⟨cs, us, k1, k2, h1, h2⟩
          have all : ∀ k, k ≤ len → ∃ xs : List (List AV), xs.length = k ∧ ∀ i x, xs[i]? = some x → ∃ us, Cells w μ x us ∧ Sh P e x ∧ us.length = P.cellsOf e ∧ ∀ j, j < P.cellsOf e → w.cell? ((a.add (i * P.cellsOf e)).add j) = us[j]? := by
            intro k
            induction k with
            | zero => intro _; exact ⟨[], rfl, fun i x e => by simp at e⟩
            | succ k ihk =>
              intro hk
              obtain ⟨xs, h1, h2⟩ := ihk (by omega)
              obtain ⟨cs, us, h3⟩ := key k (by omega)
              refine ⟨xs ++ [cs], by simp [h1], fun i x e => ?_⟩
              rw [List.getElem?_append] at e
              split at e
              · exact h2 i x e
              · rename_i hi
                have hi2 : i = k := by
                  have := (List.getElem?_eq_some_iff.1 e).1
                  simp at this
                  omega
                subst hi2
                rw [h1] at e
                simp at e
                subst e
                exact ⟨us, h3⟩
          obtain ⟨xs, hxl, hxs⟩ := all len (Nat.le_refl _)
          have hlens : ∀ x ∈ xs, x.length = P.cellsOf e := fun x hx => by
            obtain ⟨i, hi⟩ := List.getElem?_of_mem hx
            obtain ⟨us, k1, _, k3, _⟩ := hxs i x hi
            rw [k1.1, k3]
          have hcl : ∀ x ∈ xs, ∀ y ∈ x, Clean y := fun x hx y hy => by
            obtain ⟨i, hi⟩ := List.getElem?_of_mem hx
            obtain ⟨j, hj⟩ := List.getElem?_of_mem hy
            obtain ⟨us, k1, _, k3, _⟩ := hxs i x hi
            have hj' : j < us.length := by rw [← k1.1]; exact (List.getElem?_eq_some_iff.1 hj).1
            exact (k1.2 j y _ hj (List.getElem?_eq_getElem hj')).2.1
          have hspot : xs ≠ [] → a.spot = none := by
            intro hne
            obtain ⟨x, r, hxr⟩ := List.exists_cons_of_ne_nil hne
            obtain ⟨us, k1, _, k3, k4⟩ := hxs 0 x (by rw [hxr]; rfl)
            have h0 := k4 0 hpos
            rw [List.getElem?_eq_getElem (by omega)] at h0
            have := World.cell?_spot h0
            simpa [Addr.add] using this
          have hcellA : ∀ i x, xs[i]? = some x → ∀ j y, x[j]? = some y → ∃ u : Value, w.cell? ⟨a.block, a.off + (i * P.cellsOf e + j), none⟩ = some u ∧ u.oneCell' = true ∧ Rep w noX noX μ y u := by
            intro i x hx j y hy
            obtain ⟨us, k1, _, k3, k4⟩ := hxs i x hx
            have hj : j < P.cellsOf e := by rw [← hlens x (List.mem_of_getElem? hx)]; exact (List.getElem?_eq_some_iff.1 hy).1
            have h0 := k4 j hj
            have hj' : j < us.length := by omega
            rw [List.getElem?_eq_getElem hj'] at h0
            obtain ⟨q1, q2, q3⟩ := k1.2 j y us[j] hy (List.getElem?_eq_getElem hj')
            have hne : xs ≠ [] := by rintro rfl; simp at hx
            have ha : a = ⟨a.block, a.off, none⟩ := by have := hspot hne; cases a; simp_all
            rw [ha, Addr.add_lit, Addr.add_lit] at h0
            refine ⟨us[j], ?_, q3, q1⟩
            rw [← h0]
            congr 2
            exact (Nat.add_assoc _ _ _).symm
          refine ⟨[.sl ⟨false, false, decide (cap = xs.length)⟩ xs], one _ _ ?_ (.sl _ _ rfl hcl) rfl, .slice _ _ hu rfl (fun q => by cases q) (Nat.le_trans (Nat.mul_le_mul_right _ (by omega)) hwl) (fun x hx => ?_)⟩
          · obtain ⟨U, hU⟩ := own_vals (O := noX) (X := noX) (μ := μ) (A := a) (sz := P.cellsOf e) hcellA
            rw [← hxl]
            exact .sl _ xs a (P.cellsOf e) cap U rfl hpos hlens (by omega) (fun q => by simpa using q) (fun hne => ⟨hspot hne, .inr (fun k => k)⟩) (fun i x ex j y ey => (hU i x ex j y ey).1) (fun i x ex j y ey => (hU i x ex j y ey).2) (fun _ => hcl)
          · obtain ⟨i, hi⟩ := List.getElem?_of_mem hx
            obtain ⟨us, _, k2, _⟩ := hxs i x hi
            exact k2
      · rename_i fs hu
        simp only [Bool.and_eq_true, List.all_eq_true] at hok
        obtain ⟨htile, hokf⟩ := hok
        obtain ⟨xs, n, hn, hxe, hlen, hxl, hf⟩ := DataW.trod_struct hu h
        rw [← hlen] at htile
        obtain ⟨cs, h1, h2⟩ := cells_struct (w := w) (μ := μ) (vs := vs) fs.toList 0 htile (fun f hfm => by
          obtain ⟨i, hi⟩ := List.getElem?_of_mem hfm
          have hi' : fs[i]? = some f := by simpa using hi
          have hx := hf i f hi'
          have hil : i < xs.length := by rw [hxl]; exact (Array.getElem?_eq_some_iff.1 hi').1
          rw [List.getElem?_eq_getElem hil] at hx
          obtain ⟨av, k1, k2⟩ := ih n (by omega) d f.type _ _ (hokf f hfm) hx (fun m hm => hwt m (by
            rw [hxe]
            simp only [DataW.weights, hu]
            exact DataW.weights_mem_each (j := i) (by simp [hi']) (by simp [List.getElem?_eq_getElem hil]) m hm))
          exact ⟨av, k1, k2⟩)
        rw [List.drop_zero] at h1
        exact ⟨cs, h1, .struct fs cs hu (by rw [h1.1, hlen]) (fun f hfm => by simpa using (h2 f hfm).2)⟩
      · rename_i n e hu
        simp only [Bool.and_eq_true, decide_eq_true_eq] at hok
        obtain ⟨hsz, hoke⟩ := hok
        obtain ⟨xs, m, hm, hxe, hlen, hxl, hf⟩ := DataW.trod_array hu h
        have hl : vs.length = n * P.cellsOf e := hlen.trans hsz
        obtain ⟨cs, h1, h2⟩ := cells_array (w := w) (μ := μ) (S := Sh P e) hl n (Nat.le_refl _) (fun i hi => by
          have hx := hf i hi
          rw [List.getElem?_eq_getElem (by omega)] at hx
          obtain ⟨av, k1, k2⟩ := ih m (by omega) d e _ _ hoke hx (fun n' hn' => hwt n' (by
            rw [hxe]
            simp only [DataW.weights, hu]
            exact weightsAll_mem (List.mem_map.2 ⟨_, List.getElem_mem _, rfl⟩) n' hn'))
          exact ⟨av, k1, k2⟩)
        rw [← hl, List.take_of_length_le (Nat.le_refl _)] at h1
        exact ⟨cs, h1, .array n cs hu (by rw [h1.1, hl]) h2⟩
      · cases hok

end
end Go.Ev
