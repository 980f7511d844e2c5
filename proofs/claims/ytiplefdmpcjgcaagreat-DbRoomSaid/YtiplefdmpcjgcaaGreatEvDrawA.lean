/- Regions that draw their order: what hangs on what. -/
import Derived.Test.YtiplefdmpcjgcaaGreatEvSeq
import Derived.Orders
namespace Go.Ev
open Go Go.RowKit

section
variable {H : List Lv} {L : Lv}

theorem od_congr {E E' : Tm} {x : Od} (h : ∀ t ∈ odR x, lk E t = lk E' t) : x.ev E = x.ev E' := by
  cases x with
  | t n => exact h n (by simp [odR])
  | c v => rfl

theorem oo_congr {E E' : Tm} {x : Option Od} (h : ∀ t ∈ ooR x, lk E t = lk E' t) : x.map (Od.ev E) = x.map (Od.ev E') := by
  cases x with
  | none => rfl
  | some x => simp only [Option.map_some, od_congr h]

theorem ods_congr {E E' : Tm} {xs : List Od} (h : ∀ t ∈ xs.flatMap odR, lk E t = lk E' t) : xs.map (Od.ev E) = xs.map (Od.ev E') :=
  List.map_congr_left fun x hx => od_congr fun t ht => h t (List.mem_flatMap.2 ⟨x, hx, ht⟩)

theorem fill_congr {E E' : Tm} : ∀ (ps : List (Nat × Nat × Od)) (cs : List AV), (∀ t ∈ ps.flatMap (fun p => odR p.2.2), lk E t = lk E' t) → fill E cs ps = fill E' cs ps
  | [], _, _ => rfl
  | (off, sz, x) :: ps, cs, h => by
    simp only [fill]
    rw [od_congr (x := x) (fun t ht => h t (by simp [ht]))]
    split
    · split
      · exact fill_congr ps _ (fun t ht => h t (by simp only [List.flatMap_cons, List.mem_append]; exact .inr ht))
      · rfl
    · rfl

theorem ev_congr {E E' : Tm} (i : Ins) (h : ∀ t ∈ insR i, lk E t = lk E' t) : evR H E L i = evR H E' L i ∧ evA H E i = evA H E' i ∧ evW H E L i = evW H E' L i := by
  cases i with
  | mv x => have h1 := od_congr (x := x) h; simp only [evR, evA, evW, h1, and_self]
  | box x => have h1 := od_congr (x := x) h; simp only [evR, evA, evW, h1, and_self]
  | ld g sz x => have h1 := od_congr (x := x) h; simp only [evR, evA, evW, h1, and_self]
  | nck x => have h1 := od_congr (x := x) h; simp only [evR, evA, evW, h1, and_self]
  | un op x => have h1 := od_congr (x := x) h; simp only [evR, evA, evW, h1, and_self]
  | tab bs x => have h1 := od_congr (x := x) h; simp only [evR, evA, evW, h1, and_self]
  | conv k x => have h1 := od_congr (x := x) h; simp only [evR, evA, evW, h1, and_self]
  | fad o x => have h1 := od_congr (x := x) h; simp only [evR, evA, evW, h1, and_self]
  | fld g s o x => have h1 := od_congr (x := x) h; simp only [evR, evA, evW, h1, and_self]
  | ext n x => have h1 := od_congr (x := x) h; simp only [evR, evA, evW, h1, and_self]
  | len x => have h1 := od_congr (x := x) h; simp only [evR, evA, evW, h1, and_self]
  | clear s z x => have h1 := od_congr (x := x) h; simp only [evR, evA, evW, h1, and_self]
  | pick c a b =>
    have h1 := od_congr (x := c) (fun t ht => h t (by simp [insR, ht]))
    have h2 := od_congr (x := a) (fun t ht => h t (by simp [insR, ht]))
    have h3 := od_congr (x := b) (fun t ht => h t (by simp [insR, ht]))
    simp only [evR, evA, evW, h1, h2, h3, and_self]
  | alloc z => exact ⟨rfl, rfl, rfl⟩
  | bad => exact ⟨rfl, rfl, rfl⟩
  | mkm => exact ⟨rfl, rfl, rfl⟩
  | build z ps => have h1 := fill_congr (E := E) (E' := E') ps z h; simp only [evR, evA, evW, h1, and_self]
  | bslice s n z ps => have h1 := fill_congr (E := E) (E' := E') ps z h; simp only [evR, evA, evW, h1, and_self]
  | mkf f fs cs =>
    have h1 := ods_congr (xs := fs) (fun t ht => h t (List.mem_append.2 (.inl ht)))
    have h2 := ods_congr (xs := cs) (fun t ht => h t (List.mem_append.2 (.inr ht)))
    simp only [evR, evA, evW, h1, h2, and_self]
  | slice s x lo hi mx =>
    have h1 := od_congr (x := x) (fun t ht => h t (by simp [insR, ht]))
    have h2 := oo_congr (x := lo) (fun t ht => h t (by simp [insR, ht]))
    have h3 := oo_congr (x := hi) (fun t ht => h t (by simp [insR, ht]))
    have h4 := oo_congr (x := mx) (fun t ht => h t (by simp [insR, ht]))
    simp only [evR, evA, evW, h1, h2, h3, h4, and_self]
  | mset a b c =>
    have h1 := od_congr (x := a) (fun t ht => h t (by simp [insR, ht]))
    have h2 := od_congr (x := b) (fun t ht => h t (by simp [insR, ht]))
    have h3 := od_congr (x := c) (fun t ht => h t (by simp [insR, ht]))
    simp only [evR, evA, evW, h1, h2, h3, and_self]
  | call f as => exact ⟨rfl, rfl, rfl⟩
  | ccall x as => exact ⟨rfl, rfl, rfl⟩
  | mx x xs =>
    have h1 := od_congr (x := x) (fun t ht => h t (List.mem_append.2 (.inl ht)))
    have h2 := ods_congr (xs := xs) (fun t ht => h t (List.mem_append.2 (.inr ht)))
    simp only [evR, evA, evW, h1, h2, and_self]
  | mn x xs =>
    have h1 := od_congr (x := x) (fun t ht => h t (List.mem_append.2 (.inl ht)))
    have h2 := ods_congr (xs := xs) (fun t ht => h t (List.mem_append.2 (.inr ht)))
    simp only [evR, evA, evW, h1, h2, and_self]
  | st s a x | bin op q a x | mks s b z a x | iad s r a x | idx g s n a x | look z a x ok | app s b a x | copy s a x =>
    have h1 := od_congr (x := a) (fun t ht => h t (by simp [insR, ht]))
    have h2 := od_congr (x := x) (fun t ht => h t (by simp [insR, ht]))
    simp only [evR, evA, evW, h1, h2, and_self]

theorem still_mem {E : Tm} {i : Ins} (h : still i = true) (L L' : Lv) : evR H E L i = evR H E L' i := by
  cases i <;> first | rfl | cases h

theorem still_kd {i : Ins} (h : still i = true) : i.kd = .r := by cases i <;> first | rfl | cases h

theorem slot_congr {E E' : Tm} {B S : Lv} (i : Ins) (h : ∀ t ∈ insR i, lk E t = lk E' t) : wslot E B S i = wslot E' B S i := by
  cases i with
  | st s a x => simp only [wslot, od_congr (x := a) (fun t ht => h t (by simp [insR, ht]))]
  | _ => rfl

theorem want_congr {E E' : Tm} {g : Option (Nat × Bool)} (h : ∀ t ∈ guardR g, lk E t = lk E' t) : want g E = want g E' := by
  cases g with
  | none => rfl
  | some p => obtain ⟨t, b⟩ := p; simp only [want, h t (by simp [guardR])]

theorem clash_l {x y : I} {t : Nat} (hd : x.d = some t) (h : t ∈ insR y.i ∨ t ∈ guardR y.g ∨ y.d = some t) : clash x y = true := by
  simp only [clash, hd, Bool.or_eq_true, List.contains_iff_mem, beq_iff_eq]
  rcases h with h | h | h
  · exact .inl (.inl (.inl h))
  · exact .inl (.inl (.inr h))
  · exact .inl (.inr h)

theorem clash_r {x y : I} {t : Nat} (hd : y.d = some t) (h : t ∈ insR x.i ∨ t ∈ guardR x.g) : clash x y = true := by
  simp only [clash, hd, Bool.or_eq_true, List.contains_iff_mem]
  exact .inr h

/-! What is put, by those that have come. -/

def ES (T : Tm) (d : Nat → Option Nat) (v : Nat → AV) (ls : Nat → Bool) : Nat → Tm
  | 0 => T
  | p + 1 => if ls p then dput (d p) (v p) (ES T d v ls p) else ES T d v ls p

variable {T : Tm} {d : Nat → Option Nat} {v : Nat → AV}

theorem lk_dput_ne {d : Option Nat} {v : AV} {E : Tm} {t : Nat} (h : d ≠ some t) : lk (dput d v E) t = lk E t := by
  cases d with
  | none => rfl
  | some a => simp only [dput, lk]; rw [if_neg (fun e => h (by rw [e]))]

theorem lk_dput_eq {v : AV} {E : Tm} {t : Nat} : lk (dput (some t) v E) t = v := by simp [dput, lk]

theorem lk_ES {ls ls' : Nat → Bool} {t : Nat} : ∀ n, (∀ j < n, d j = some t → ls j = ls' j) → lk (ES T d v ls n) t = lk (ES T d v ls' n) t
  | 0, _ => rfl
  | n + 1, h => by
    have ih := lk_ES (ls := ls) (ls' := ls') n (fun j hj e => h j (by omega) e)
    simp only [ES]
    by_cases hd : d n = some t
    · rw [h n (by omega) hd]
      split
      · rw [hd, lk_dput_eq, lk_dput_eq]
      · exact ih
    · split <;> split <;> simp only [lk_dput_ne hd, ih]

theorem ES_pre : ∀ (n p : Nat), p ≤ n → ES T d v (fun j => decide (j < p)) n = ES T d v (fun _ => true) p
  | 0, p, h => by have : p = 0 := by omega
                  subst this; rfl
  | n + 1, p, h => by
    by_cases hp : p = n + 1
    · subst hp
      have : ∀ k, k ≤ n + 1 → ES T d v (fun j => decide (j < n + 1)) k = ES T d v (fun _ => true) k := by
        intro k
        induction k with
        | zero => intro _; rfl
        | succ k ih => intro hk; simp only [ES, show k < n + 1 by omega, decide_true, ih (by omega)]
      exact this _ (Nat.le_refl _)
    · simp only [ES, show ¬ n < p by omega, decide_false, Bool.false_eq_true, if_false]
      exact ES_pre n p (by omega)

theorem lk_ES_last {ls : Nat → Bool} {p t : Nat} (hp : ls p = true) (hd : d p = some t) : ∀ n, p < n → (∀ j < n, p < j → d j = some t → ls j = false) → lk (ES T d v ls n) t = v p
  | 0, h, _ => by omega
  | n + 1, h, k => by
    simp only [ES]
    by_cases e : p = n
    · subst e; rw [if_pos hp, hd, lk_dput_eq]
    · have ih := lk_ES_last (n := n) hp hd (by omega) (fun j hj => k j (by omega))
      split
      · rename_i hn
        have : d n ≠ some t := fun q => by rw [k n (by omega) (by omega) q] at hn; cases hn
        rw [lk_dput_ne this]; exact ih
      · exact ih

/-! The trace. -/

theorem evD_trace {G : GP} {call : CallT} : ∀ (is : List I) (σ σf : DS), evD G call H is σ = some σf → ∃ (st : Nat → DS) (vv : Nat → AV), st 0 = σ ∧ st is.length = σf ∧ ∀ p i, is[p]? = some i → stepD G call H i (st p) = some (vv p, st (p + 1))
  | [], σ, σf, h => by
    simp only [evD, Option.some.injEq] at h
    subst h
    exact ⟨fun _ => σ, fun _ => .un, rfl, rfl, fun p i e => by simp at e⟩
  | i :: is, σ, σf, h => by
    simp only [evD] at h
    split at h
    · rename_i v σ' hs
      obtain ⟨st, vv, h1, h2, h3⟩ := evD_trace is σ' σf h
      refine ⟨fun p => match p with | 0 => σ | p + 1 => st p, fun p => match p with | 0 => v | p + 1 => vv p, rfl, h2, fun p j e => ?_⟩
      cases p with
      | zero =>
        simp only [List.getElem?_cons_zero, Option.some.injEq] at e
        subst e
        show stepD G call H i σ = some (v, st 0)
        rw [h1]; exact hs
      | succ p => exact h3 p j (by simpa using e)
    · cases h

theorem step_shape {G : GP} {call : CallT} {i : I} {σ σ' : DS} {v : AV} (h : stepD G call H i σ = some (v, σ')) :
    σ'.E = dput i.d v σ.E ∧ (isBar G.md i.i = true → σ'.S = []) ∧ (isBar G.md i.i = false → σ'.B = σ.B ∧ σ'.W = σ.W ∧ (isMk i.i = true → ∃ x, σ'.S = σ.S ++ [x]) ∧ (isMk i.i = false → σ'.S = σ.S)) := by
  unfold stepD at h
  split at h
  · cases hk : i.i.kd with
    | r =>
      have hb : isBar G.md i.i = false := by simp [isBar, hk]
      have hm : isMk i.i = false := by simp [isMk, hk]
      simp only [hk] at h
      split at h
      · split at h
        · simp only [Option.some.injEq, Prod.mk.injEq] at h
          obtain ⟨rfl, rfl⟩ := h
          exact ⟨rfl, fun q => (by rw [hb] at q; cases q), fun _ => ⟨rfl, rfl, fun q => (by rw [hm] at q; cases q), fun _ => rfl⟩⟩
        · cases h
      · cases h
    | a =>
      have hb : isBar G.md i.i = false := by simp [isBar, hk]
      have hm : isMk i.i = true := by simp [isMk, hk]
      simp only [hk] at h
      split at h
      · simp only [Option.some.injEq, Prod.mk.injEq] at h
        obtain ⟨rfl, rfl⟩ := h
        exact ⟨rfl, fun q => (by rw [hb] at q; cases q), fun _ => ⟨rfl, rfl, fun q => ⟨_, rfl⟩, fun q => (by rw [hm] at q; cases q)⟩⟩
      · cases h
    | p =>
      have hm : isMk i.i = false := by simp [isMk, hk]
      simp only [hk] at h
      split at h
      · rename_i f as hi
        split at h
        · rename_i hmd
          have hb : isBar G.md i.i = false := by simp [isBar, hi, isImp, hmd, Ins.kd]
          split at h
          · simp only [Option.some.injEq, Prod.mk.injEq] at h
            obtain ⟨rfl, rfl⟩ := h
            exact ⟨rfl, fun q => (by rw [hb] at q; cases q), fun _ => ⟨rfl, rfl, fun q => (by rw [hm] at q; cases q), fun _ => rfl⟩⟩
          · cases h
        · rename_i hmd
          have hb : isBar G.md i.i = true := by simp [isBar, hi, isImp, hmd, Ins.kd]
          split at h
          · simp only [Option.some.injEq, Prod.mk.injEq] at h
            obtain ⟨rfl, rfl⟩ := h
            exact ⟨rfl, fun _ => rfl, fun q => (by rw [hb] at q; cases q)⟩
          · cases h
      · cases h
    | q =>
      have hb : isBar G.md i.i = false := by simp [isBar, hk]
      have hm : isMk i.i = false := by simp [isMk, hk]
      simp only [hk] at h
      split at h
      · split at h
        · split at h
          · split at h
            · simp only [Option.some.injEq, Prod.mk.injEq] at h
              obtain ⟨rfl, rfl⟩ := h
              exact ⟨rfl, fun q => (by rw [hb] at q; cases q), fun _ => ⟨rfl, rfl, fun q => (by rw [hm] at q; cases q), fun _ => rfl⟩⟩
            · cases h
          · cases h
        · cases h
      · cases h
    | w =>
      have hb : isBar G.md i.i = true := by simp [isBar, hk]
      simp only [hk] at h
      split at h
      · simp only [Option.some.injEq, Prod.mk.injEq] at h
        obtain ⟨rfl, rfl⟩ := h
        exact ⟨rfl, fun _ => rfl, fun q => (by rw [hb] at q; cases q)⟩
      · cases h
  · simp only [Option.some.injEq, Prod.mk.injEq] at h
    obtain ⟨rfl, rfl⟩ := h
    cases hb : isBar G.md i.i with
    | true => exact ⟨rfl, fun _ => rfl, fun q => (by cases q)⟩
    | false =>
      cases hm : isMk i.i with
      | true => exact ⟨rfl, (fun q => by cases q), fun _ => ⟨rfl, rfl, fun _ => ⟨_, rfl⟩, fun q => (by cases q)⟩⟩
      | false => exact ⟨rfl, (fun q => by cases q), fun _ => ⟨rfl, rfl, (fun q => by cases q), fun _ => rfl⟩⟩
  · cases h

end
end Go.Ev
