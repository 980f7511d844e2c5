/- The evaluator without a bound on its rounds and calls: the limit of its levels, and the equations that it meets. -/
import Derived.Test.YtiplefdmpcjgcaaGreatEvDefs
namespace Go.Ev
open Go

def LE {α : Type} (a b : Option α) : Prop := ∀ r, a = some r → b = some r
theorem LE.rfl {α : Type} (a : Option α) : LE a a := fun _ h => h
theorem LE.none {α : Type} (b : Option α) : LE none b := fun _ h => by cases h
theorem LE.trans {α : Type} {a b c : Option α} (h : LE a b) (k : LE b c) : LE a c := fun r e => k r (h r e)
def LC (c d : CallT) : Prop := ∀ f as H L, LE (c f as H L) (d f as H L)
def LL (c d : LoopT) : Prop := ∀ k H T L, LE (c k H T L) (d k H T L)

section mono
variable {G : GP} {c d : CallT} {l m : LoopT}

theorem pcall_le (h : LC c d) (H : List Lv) (L : Lv) (f : Nat) (as : List AV) : LE (pcall c H L f as) (pcall d H L f as) := by
  intro r e
  unfold pcall at e ⊢
  by_cases hy : f = yieldF
  · rw [if_pos hy] at e; cases e
  rw [if_neg hy] at e ⊢
  cases hb : allM (borrow H L depth) as with
  | none => rw [hb] at e; cases e
  | some bs =>
    rw [hb] at e
    simp only at e ⊢
    cases hc : c f bs (L :: H) [] with
    | none => rw [hc] at e; cases e
    | some p => rw [hc] at e; rw [h _ _ _ _ _ hc]; exact e

theorem doCall_le (h : LC c d) (H : List Lv) (L : Lv) (f : Nat) (as : List AV) : LE (doCall G c H L f as) (doCall G d H L f as) := by
  intro r e
  unfold doCall at e ⊢
  cases hm : G.md f with
  | pure =>
    rw [hm] at e
    simp only [Option.map_eq_some_iff] at e ⊢
    obtain ⟨a, ha, e⟩ := e
    exact ⟨a, pcall_le h H L f as _ ha, e⟩
  | impure =>
    rw [hm] at e
    by_cases hy : f = yieldF
    · simp only [if_pos hy] at e; cases e
    · simp only [if_neg hy] at e ⊢; exact h _ _ _ _ _ e

theorem ev1_le (h : LC c d) (H : List Lv) (E : Tm) (L : Lv) (i : Ins) : LE (ev1 G c H E L i) (ev1 G d H E L i) := by
  intro r e
  cases i
  case call f as => exact doCall_le h _ _ _ _ _ e
  case ccall x as =>
    simp only [ev1] at e ⊢
    split at e
    · exact doCall_le h _ _ _ _ _ e
    · exact h _ _ _ _ _ e
    · cases e
  all_goals exact e

theorem evL_le (h : LC c d) (H : List Lv) : ∀ (is : List I) (E : Tm) (L : Lv), LE (evL G c H is E L) (evL G d H is E L)
  | [], E, L => LE.rfl _
  | i :: is, E, L => by
    intro r e
    unfold evL at e ⊢
    split at e
    · cases he : ev1 G c H E L i.i with
      | none => rw [he] at e; cases e
      | some p => rw [he] at e; rw [ev1_le h H E L i.i _ he]; exact evL_le h H is _ _ _ e
    · exact evL_le h H is _ _ _ e
    · cases e

theorem stepD_le (h : LC c d) (H : List Lv) (i : I) (σ : DS) : LE (stepD G c H i σ) (stepD G d H i σ) := by
  intro r e
  unfold stepD at e ⊢
  split at e
  · cases hk : i.i.kd with
    | r => simp only [hk] at e ⊢; exact e
    | a => simp only [hk] at e ⊢; exact e
    | p =>
      simp only [hk] at e ⊢
      cases hi : i.i with
      | call f as =>
        simp only [hi] at e ⊢
        cases hm : G.md f with
        | pure =>
          simp only [hm] at e ⊢
          cases hv : pcall c H (σ.B ++ mask i.v σ.S) f (as.map (Od.ev σ.E)) with
          | none => rw [hv] at e; cases e
          | some v => rw [hv] at e; rw [pcall_le h _ _ _ _ _ hv]; exact e
        | impure =>
          simp only [hm] at e ⊢
          by_cases hy : f = yieldF
          · simp only [if_pos hy] at e; cases e
          simp only [if_neg hy] at e ⊢
          cases hv : c f (as.map (Od.ev σ.E)) H (σ.B ++ σ.S) with
          | none => rw [hv] at e; cases e
          | some v => rw [hv] at e; rw [h _ _ _ _ _ hv]; exact e
      | _ => simp only [hi] at e; cases e
    | q =>
      simp only [hk] at e ⊢
      cases hi : i.i with
      | ccall x as =>
        simp only [hi] at e ⊢
        cases hx : x.ev σ.E with
        | fn f cap =>
          simp only [hx] at e ⊢
          cases hm : G.md f with
          | pure =>
            simp only [hm] at e ⊢
            cases hv : pcall c H (σ.B ++ mask i.v σ.S) f (as.map (Od.ev σ.E) ++ cap) with
            | none => rw [hv] at e; cases e
            | some v => rw [hv] at e; rw [pcall_le h _ _ _ _ _ hv]; exact e
          | impure => simp only [hm] at e; cases e
        | _ => simp only [hx] at e; cases e
      | _ => simp only [hi] at e; cases e
    | w => simp only [hk] at e ⊢; exact e
  · exact e
  · cases e

theorem evD_le (h : LC c d) (H : List Lv) : ∀ (is : List I) (σ : DS), LE (evD G c H is σ) (evD G d H is σ)
  | [], σ => LE.rfl _
  | i :: is, σ => by
    intro r e
    unfold evD at e ⊢
    cases hv : stepD G c H i σ with
    | none => rw [hv] at e; cases e
    | some p => rw [hv] at e; rw [stepD_le h H i σ _ hv]; exact evD_le h H is _ _ e

theorem evReg_le (h : LC c d) (H : List Lv) (dr : Bool) (is : List I) (T : Tm) (L : Lv) : LE (evReg G c H dr is T L) (evReg G d H dr is T L) := by
  intro r e
  unfold evReg at e ⊢
  split at e
  · rename_i hd
    rw [if_pos hd]
    simp only [Option.map_eq_some_iff] at e ⊢
    obtain ⟨a, ha, e⟩ := e
    exact ⟨a, evD_le h H is _ _ ha, e⟩
  · rename_i hd
    rw [if_neg hd]
    simp only [Option.map_eq_some_iff] at e ⊢
    obtain ⟨a, ha, e⟩ := e
    exact ⟨a, evL_le h H is _ _ _ ha, e⟩

theorem evC_le (h : LC c d) (hl : LL l m) (H : List Lv) : ∀ (k : C) (T : Tm) (L : Lv), LE (evC G c l H k T L) (evC G d m H k T L)
  | .skip, T, L => LE.rfl _
  | .bad, T, L => LE.rfl _
  | .exit n, T, L => LE.rfl _
  | .ret, T, L => LE.rfl _
  | .loop b, T, L => fun r e => hl b H T L r e
  | .reg dr is, T, L => by
    intro r e
    simp only [evC, Option.map_eq_some_iff] at e ⊢
    obtain ⟨a, ha, e⟩ := e
    exact ⟨a, evReg_le h H _ _ _ _ _ ha, e⟩
  | .seq a b, T, L => by
    intro r e
    simp only [evC] at e ⊢
    cases ha : evC G c l H a T L with
    | none => rw [ha] at e; cases e
    | some p =>
      rw [ha] at e
      rw [evC_le h hl H a T L _ ha]
      obtain ⟨x, T', L'⟩ := p
      cases x
      · exact evC_le h hl H b _ _ _ e
      · exact e
      · exact e
  | .cond x a b, T, L => by
    intro r e
    simp only [evC] at e ⊢
    split at e
    · split at e
      · rename_i ht; rw [if_pos ht]; exact evC_le h hl H a _ _ _ e
      · rename_i ht; rw [if_neg ht]; exact evC_le h hl H b _ _ _ e
    · cases e
  | .block n k, T, L => by
    intro r e
    simp only [evC] at e ⊢
    cases ha : evC G c l H k T L with
    | none => rw [ha] at e; cases e
    | some p => rw [ha] at e; rw [evC_le h hl H k T L _ ha]; exact e
  | .range x ps asg bd, T, L => by
    intro r e
    simp only [evC] at e ⊢
    split at e
    · rename_i f cap hx
      by_cases hy : f = yieldF
      · rw [if_pos hy] at e; cases e
      rw [if_neg hy] at e ⊢
      cases ha : c f (.yl H.length L.length :: cap) H (L ++ [.loop ps T asg bd]) with
      | none => rw [ha] at e; cases e
      | some p => rw [ha] at e; rw [h _ _ _ _ _ ha]; exact e
    · cases e

theorem evFn_le (h : LC c d) (hl : LL l m) (fn : Fn) (as : List AV) (H : List Lv) (L : Lv) : LE (evFn G c l fn as H L) (evFn G d m fn as H L) := by
  intro r e
  unfold evFn at e ⊢
  cases ha : evC G c l H fn.code (start fn.vs as) L with
  | none => rw [ha] at e; cases e
  | some p => rw [ha] at e; rw [evC_le h hl H _ _ _ _ ha]; exact e

theorem evY_le (h : LC c d) (hl : LL l m) (as : List AV) (H : List Lv) (L : Lv) : LE (evY G c l as H L) (evY G d m as H L) := by
  intro r e
  unfold evY at e ⊢
  split at e
  · split at e
    · split at e
      · rename_i ps T asg bd hb
        split at e
        · rename_i hv
          cases ha : evC G c l H (.seq asg bd) (bindP ps _ T) (L.set _ .dead) with
          | none => rw [ha] at e; cases e
          | some p =>
            have hle := evC_le h hl H (.seq asg bd) _ _ _ ha
            rw [ha] at e
            rw [if_pos (by assumption)]
            simp only [if_pos hv, hle]
            exact e
        · cases e
      · cases e
    · cases e
  · cases e

end mono

theorem lev_le (G : GP) : ∀ k, LC (lev G k).1 (lev G (k + 1)).1 ∧ LL (lev G k).2 (lev G (k + 1)).2
  | 0 => ⟨fun _ _ _ _ => LE.none _, fun _ _ _ _ => LE.none _⟩
  | k + 1 => by
    obtain ⟨h1, h2⟩ := lev_le G k
    refine ⟨fun f as H L r e => ?_, fun c H T L r e => ?_⟩
    · simp only [lev] at e ⊢
      cases hx : G.ex f with
      | some g => rw [hx] at e; exact e
      | none =>
        rw [hx] at e
        simp only at e ⊢
        cases hf : G.fn f with
        | none =>
          rw [hf] at e
          simp only at e ⊢
          by_cases hy : f = yieldF
          · rw [if_pos hy] at e ⊢; exact evY_le h1 h2 as H L _ e
          · rw [if_neg hy] at e; cases e
        | some fn => rw [hf] at e; exact evFn_le h1 h2 fn as H L _ e
    · simp only [lev] at e ⊢
      cases ha : evC G (lev G k).1 (lev G k).2 H c T L with
      | none => rw [ha] at e; cases e
      | some p =>
        rw [ha] at e
        have hb := evC_le h1 h2 H c T L _ ha
        simp only [lev] at hb
        rw [hb]
        obtain ⟨x, T', L'⟩ := p
        cases x
        · exact h2 _ _ _ _ _ e
        · exact e
        · exact e

theorem lev_mono (G : GP) {j k : Nat} (h : j ≤ k) : LC (lev G j).1 (lev G k).1 ∧ LL (lev G j).2 (lev G k).2 := by
  induction h with
  | refl => exact ⟨fun _ _ _ _ => LE.rfl _, fun _ _ _ _ => LE.rfl _⟩
  | step _ ih => exact ⟨fun f as H L => (ih.1 f as H L).trans ((lev_le G _).1 f as H L), fun c H T L => (ih.2 c H T L).trans ((lev_le G _).2 c H T L)⟩

open Classical in
noncomputable def lim {α : Type} (f : Nat → Option α) : Option α := if h : ∃ k, (f k).isSome = true then f h.choose else none

theorem lim_some {α : Type} {f : Nat → Option α} (hm : ∀ j k, j ≤ k → LE (f j) (f k)) (r : α) : lim f = some r ↔ ∃ k, f k = some r := by
  unfold lim
  constructor
  · intro h
    split at h
    · exact ⟨_, h⟩
    · cases h
  · rintro ⟨k, hk⟩
    have h : ∃ k, (f k).isSome = true := ⟨k, by rw [hk]; rfl⟩
    rw [dif_pos h]
    obtain ⟨v, hv⟩ := Option.isSome_iff_exists.1 h.choose_spec
    rcases Nat.le_total k h.choose with hle | hle
    · exact hm _ _ hle _ hk
    · rw [hv]
      have := hm _ _ hle _ hv
      rw [hk] at this
      exact this.symm

/-- A call, and a loop, without a bound. -/
noncomputable def callW (G : GP) : CallT := fun f as H L => lim fun k => (lev G k).1 f as H L
noncomputable def loopW (G : GP) : LoopT := fun c H T L => lim fun k => (lev G k).2 c H T L

section W
variable {G : GP}
theorem callW_some (f : Nat) (as : List AV) (H : List Lv) (L : Lv) (r : AV × Lv) : callW G f as H L = some r ↔ ∃ k, (lev G k).1 f as H L = some r :=
  lim_some (fun _ _ h => (lev_mono G h).1 f as H L) r
theorem loopW_some (c : C) (H : List Lv) (T : Tm) (L : Lv) (r : Ex × Tm × Lv) : loopW G c H T L = some r ↔ ∃ k, (lev G k).2 c H T L = some r :=
  lim_some (fun _ _ h => (lev_mono G h).2 c H T L) r
theorem lev_callW (k : Nat) : LC (lev G k).1 (callW G) := fun _ _ _ _ _ e => (callW_some ..).2 ⟨k, e⟩
theorem lev_loopW (k : Nat) : LL (lev G k).2 (loopW G) := fun _ _ _ _ _ e => (loopW_some ..).2 ⟨k, e⟩

/-- What the limit comes to, some level comes to. -/
def Ct {α : Type} (F : CallT → LoopT → Option α) : Prop := ∀ r, F (callW G) (loopW G) = some r → ∃ k, F (lev G k).1 (lev G k).2 = some r

theorem pcall_ct (H : List Lv) (L : Lv) (f : Nat) (as : List AV) : Ct (G := G) fun c _ => pcall c H L f as := by
  intro r e
  simp only [pcall] at e ⊢
  by_cases hy : f = yieldF
  · rw [if_pos hy] at e; cases e
  simp only [if_neg hy] at e ⊢
  cases hb : allM (borrow H L depth) as with
  | none => rw [hb] at e; cases e
  | some bs =>
    rw [hb] at e
    simp only at e ⊢
    cases hc : callW G f bs (L :: H) [] with
    | none => rw [hc] at e; cases e
    | some p =>
      obtain ⟨k, hk⟩ := (callW_some ..).1 hc
      rw [hc] at e
      exact ⟨k, by rw [hk]; exact e⟩

theorem doCall_ct (H : List Lv) (L : Lv) (f : Nat) (as : List AV) : Ct (G := G) fun c _ => doCall G c H L f as := by
  intro r e
  simp only [doCall] at e ⊢
  cases hm : G.md f with
  | pure =>
    simp only [hm, Option.map_eq_some_iff] at e ⊢
    obtain ⟨a, ha, e⟩ := e
    obtain ⟨k, hk⟩ := pcall_ct H L f as _ ha
    exact ⟨k, a, hk, e⟩
  | impure =>
    simp only [hm] at e ⊢
    by_cases hy : f = yieldF
    · rw [if_pos hy] at e; cases e
    · simp only [if_neg hy] at e ⊢; exact (callW_some ..).1 e

theorem ev1_ct (H : List Lv) (E : Tm) (L : Lv) (i : Ins) : Ct (G := G) fun c _ => ev1 G c H E L i := by
  intro r e
  cases i
  case call f as => exact doCall_ct _ _ _ _ _ e
  case ccall x as =>
    simp only [ev1] at e ⊢
    cases hx : x.ev E <;> simp only [hx] at e ⊢ <;> first | (cases e; done) | exact doCall_ct _ _ _ _ _ e | exact (callW_some ..).1 e
  all_goals exact ⟨0, e⟩

theorem evL_ct (H : List Lv) : ∀ (is : List I) (E : Tm) (L : Lv), Ct (G := G) fun c _ => evL G c H is E L
  | [], _, _ => fun _ e => ⟨0, e⟩
  | i :: is, E, L => by
    intro r e
    simp only [evL] at e ⊢
    split at e
    · cases he : ev1 G (callW G) H E L i.i with
      | none => rw [he] at e; cases e
      | some p =>
        rw [he] at e
        obtain ⟨k, hk⟩ := ev1_ct H E L i.i _ he
        obtain ⟨j, hj⟩ := evL_ct H is _ _ _ e
        refine ⟨max j k, ?_⟩
        have h1 := (lev_mono G (Nat.le_max_right j k)).1
        have h2 := (lev_mono G (Nat.le_max_left j k)).1
        rw [ev1_le h1 H E L i.i _ hk]
        exact evL_le h2 H is _ _ _ hj
    · exact evL_ct H is _ _ _ e
    · cases e

theorem stepD_ct (H : List Lv) (i : I) (σ : DS) : Ct (G := G) fun c _ => stepD G c H i σ := by
  intro r e
  simp only [stepD] at e ⊢
  split at e
  · cases hk : i.i.kd with
    | r => simp only [hk] at e ⊢; exact ⟨0, e⟩
    | a => simp only [hk] at e ⊢; exact ⟨0, e⟩
    | p =>
      simp only [hk] at e ⊢
      cases hi : i.i with
      | call f as =>
        simp only [hi] at e ⊢
        cases hm : G.md f with
        | pure =>
          simp only [hm] at e ⊢
          cases hv : pcall (callW G) H (σ.B ++ mask i.v σ.S) f (as.map (Od.ev σ.E)) with
          | none => rw [hv] at e; cases e
          | some v => rw [hv] at e; obtain ⟨a, ha⟩ := pcall_ct _ _ _ _ _ hv; exact ⟨a, by simp only at ha; rw [ha]; exact e⟩
        | impure =>
          simp only [hm] at e ⊢
          by_cases hy : f = yieldF
          · simp only [if_pos hy] at e; cases e
          simp only [if_neg hy] at e ⊢
          cases hv : callW G f (as.map (Od.ev σ.E)) H (σ.B ++ σ.S) with
          | none => rw [hv] at e; cases e
          | some v => rw [hv] at e; obtain ⟨a, ha⟩ := (callW_some ..).1 hv; exact ⟨a, by rw [ha]; exact e⟩
      | _ => simp only [hi] at e; cases e
    | q =>
      simp only [hk] at e ⊢
      cases hi : i.i with
      | ccall x as =>
        simp only [hi] at e ⊢
        cases hx : x.ev σ.E with
        | fn f cap =>
          simp only [hx] at e ⊢
          cases hm : G.md f with
          | pure =>
            simp only [hm] at e ⊢
            cases hv : pcall (callW G) H (σ.B ++ mask i.v σ.S) f (as.map (Od.ev σ.E) ++ cap) with
            | none => rw [hv] at e; cases e
            | some v => rw [hv] at e; obtain ⟨a, ha⟩ := pcall_ct _ _ _ _ _ hv; exact ⟨a, by simp only at ha; rw [ha]; exact e⟩
          | impure => simp only [hm] at e; cases e
        | _ => simp only [hx] at e; cases e
      | _ => simp only [hi] at e; cases e
    | w => simp only [hk] at e ⊢; exact ⟨0, e⟩
  · exact ⟨0, e⟩
  · cases e

theorem evD_ct (H : List Lv) : ∀ (is : List I) (σ : DS), Ct (G := G) fun c _ => evD G c H is σ
  | [], _ => fun _ e => ⟨0, e⟩
  | i :: is, σ => by
    intro r e
    simp only [evD] at e ⊢
    cases hv : stepD G (callW G) H i σ with
    | none => rw [hv] at e; cases e
    | some p =>
      rw [hv] at e
      obtain ⟨a, ha⟩ := stepD_ct H i σ _ hv
      obtain ⟨b, hb⟩ := evD_ct H is _ _ e
      refine ⟨max b a, ?_⟩
      rw [stepD_le (lev_mono G (Nat.le_max_right b a)).1 H i σ _ ha]
      exact evD_le (lev_mono G (Nat.le_max_left b a)).1 H is _ _ hb

theorem evReg_ct (H : List Lv) (dr : Bool) (is : List I) (T : Tm) (L : Lv) : Ct (G := G) fun c _ => evReg G c H dr is T L := by
  intro r e
  cases dr
  · simp only [evReg, Bool.false_eq_true, if_false, Option.map_eq_some_iff] at e ⊢
    obtain ⟨a, ha, e⟩ := e
    obtain ⟨k, hk⟩ := evL_ct H is _ _ _ ha
    exact ⟨k, a, hk, e⟩
  · simp only [evReg, if_true, Option.map_eq_some_iff] at e ⊢
    obtain ⟨a, ha, e⟩ := e
    obtain ⟨k, hk⟩ := evD_ct H is _ _ ha
    exact ⟨k, a, hk, e⟩

theorem evC_ct (H : List Lv) : ∀ (k : C) (T : Tm) (L : Lv), Ct (G := G) fun c l => evC G c l H k T L
  | .skip, _, _ => fun _ e => ⟨0, e⟩
  | .bad, _, _ => fun _ e => ⟨0, e⟩
  | .exit _, _, _ => fun _ e => ⟨0, e⟩
  | .ret, _, _ => fun _ e => ⟨0, e⟩
  | .loop b, T, L => fun r e => (loopW_some b H T L r).1 e
  | .reg dr is, T, L => by
    intro r e
    simp only [evC, Option.map_eq_some_iff] at e ⊢
    obtain ⟨a, ha, e⟩ := e
    obtain ⟨k, hk⟩ := evReg_ct H _ _ _ _ _ ha
    exact ⟨k, a, hk, e⟩
  | .seq a b, T, L => by
    intro r e
    simp only [evC] at e ⊢
    cases ha : evC G (callW G) (loopW G) H a T L with
    | none => rw [ha] at e; cases e
    | some p =>
      rw [ha] at e
      obtain ⟨i, hi⟩ := evC_ct H a T L _ ha
      dsimp only at hi
      obtain ⟨x, T', L'⟩ := p
      cases x
      · obtain ⟨j, hj⟩ := evC_ct H b _ _ _ e
        refine ⟨max j i, ?_⟩
        have h1 := lev_mono G (Nat.le_max_right j i)
        have h2 := lev_mono G (Nat.le_max_left j i)
        rw [evC_le h1.1 h1.2 H a T L _ hi]
        exact evC_le h2.1 h2.2 H b _ _ _ hj
      · exact ⟨i, by rw [hi]; exact e⟩
      · exact ⟨i, by rw [hi]; exact e⟩
  | .cond x a b, T, L => by
    intro r e
    simp only [evC] at e ⊢
    cases hx : x.ev T with
    | bool t =>
      simp only [hx] at e ⊢
      cases t
      · exact evC_ct H b _ _ _ e
      · exact evC_ct H a _ _ _ e
    | _ => simp only [hx] at e; cases e
  | .range x ps asg bd, T, L => by
    intro r e
    simp only [evC] at e ⊢
    cases hx : x.ev T <;> simp only [hx] at e ⊢ <;> first | (cases e; done) | skip
    rename_i f cap
    by_cases hy : f = yieldF
    · rw [if_pos hy] at e; cases e
    simp only [if_neg hy] at e ⊢
    cases ha : callW G f (.yl H.length L.length :: cap) H (L ++ [.loop ps T asg bd]) with
    | none => rw [ha] at e; cases e
    | some p =>
      obtain ⟨k, hk⟩ := (callW_some ..).1 ha
      rw [ha] at e
      exact ⟨k, by rw [hk]; exact e⟩
  | .block n k, T, L => by
    intro r e
    simp only [evC] at e ⊢
    cases ha : evC G (callW G) (loopW G) H k T L with
    | none => rw [ha] at e; cases e
    | some p =>
      rw [ha] at e
      obtain ⟨i, hi⟩ := evC_ct H k T L _ ha
      dsimp only at hi
      exact ⟨i, by rw [hi]; exact e⟩

theorem evY_ct (as : List AV) (H : List Lv) (L : Lv) : Ct (G := G) fun c l => evY G c l as H L := by
  intro r e
  simp only [evY] at e ⊢
  split at e
  · split at e
    · rename_i hl
      split at e
      · rename_i ps T asg bd hb
        split at e
        · rename_i hv
          cases ha : evC G (callW G) (loopW G) H (.seq asg bd) (bindP ps _ T) (L.set _ .dead) with
          | none => rw [ha] at e; cases e
          | some p =>
            obtain ⟨k, hk⟩ := evC_ct H (.seq asg bd) _ _ _ ha
            rw [ha] at e
            refine ⟨k, ?_⟩
            dsimp only at hk
            simp only [if_pos hl, if_pos hv, hk]
            exact e
        · cases e
      · cases e
    · cases e
  · cases e

theorem evFn_ct (fn : Fn) (as : List AV) (H : List Lv) (L : Lv) : Ct (G := G) fun c l => evFn G c l fn as H L := by
  intro r e
  simp only [evFn] at e ⊢
  cases ha : evC G (callW G) (loopW G) H fn.code (start fn.vs as) L with
  | none => rw [ha] at e; cases e
  | some p =>
    rw [ha] at e
    obtain ⟨i, hi⟩ := evC_ct H _ _ _ _ ha
    dsimp only at hi
    exact ⟨i, by rw [hi]; exact e⟩

theorem eq_of_some {α : Type} {a b : Option α} (h : ∀ r, a = some r ↔ b = some r) : a = b := by
  cases a with
  | none => cases b with
    | none => rfl
    | some y => exact (h y).2 rfl
  | some x => exact ((h x).1 rfl).symm

/-- A call is its body. -/
theorem callW_eq (f : Nat) (as : List AV) (H : List Lv) (L : Lv) {fn : Fn} (hx : G.ex f = none) (hf : G.fn f = some fn) :
    callW G f as H L = evFn G (callW G) (loopW G) fn as H L := by
  refine eq_of_some fun r => ⟨fun e => ?_, fun e => ?_⟩
  · obtain ⟨k, hk⟩ := (callW_some ..).1 e
    cases k with
    | zero => cases hk
    | succ k =>
      simp only [lev, hx, hf] at hk
      exact evFn_le (lev_callW k) (lev_loopW k) fn as H L _ hk
  · obtain ⟨k, hk⟩ := evFn_ct fn as H L _ e
    exact (callW_some ..).2 ⟨k + 1, by simp only [lev, hx, hf]; exact hk⟩

theorem callW_ex (f : Nat) (as : List AV) (H : List Lv) (L : Lv) {g : CallT} (hx : G.ex f = some g) : callW G f as H L = g f as H L := by
  refine eq_of_some fun r => ⟨fun e => ?_, fun e => ?_⟩
  · obtain ⟨k, hk⟩ := (callW_some ..).1 e
    cases k with
    | zero => cases hk
    | succ k => simpa only [lev, hx] using hk
  · exact (callW_some ..).2 ⟨1, by simpa only [lev, hx] using e⟩

theorem callW_yield (as : List AV) (H : List Lv) (L : Lv) (hx : G.ex yieldF = none) (hf : G.fn yieldF = none) : callW G yieldF as H L = evY G (callW G) (loopW G) as H L := by
  refine eq_of_some fun r => ⟨fun e => ?_, fun e => ?_⟩
  · obtain ⟨k, hk⟩ := (callW_some ..).1 e
    cases k with
    | zero => cases hk
    | succ k =>
      simp only [lev, hx, hf, if_true] at hk
      exact evY_le (lev_callW k) (lev_loopW k) as H L _ hk
  · obtain ⟨k, hk⟩ := evY_ct as H L _ e
    exact (callW_some ..).2 ⟨k + 1, by simp only [lev, hx, hf, if_true]; exact hk⟩

/-- A loop is a round, and the loop. -/
theorem loopW_eq (c : C) (H : List Lv) (T : Tm) (L : Lv) :
    loopW G c H T L = match evC G (callW G) (loopW G) H c T L with
      | some (.normal, T', L') => loopW G c H T' L'
      | some (.exit n, T', L') => some (.exit n, T', L')
      | some (.ret, T', L') => some (.ret, T', L')
      | none => none := by
  refine eq_of_some fun r => ⟨fun e => ?_, fun e => ?_⟩
  · obtain ⟨k, hk⟩ := (loopW_some ..).1 e
    cases k with
    | zero => cases hk
    | succ k =>
      simp only [lev] at hk
      cases ha : evC G (lev G k).1 (lev G k).2 H c T L with
      | none => rw [ha] at hk; cases hk
      | some p =>
        rw [ha] at hk
        rw [evC_le (lev_callW k) (lev_loopW k) H c T L _ ha]
        obtain ⟨x, T', L'⟩ := p
        cases x
        · exact (loopW_some ..).2 ⟨k, hk⟩
        · exact hk
        · exact hk
  · cases ha : evC G (callW G) (loopW G) H c T L with
    | none => rw [ha] at e; cases e
    | some p =>
      rw [ha] at e
      obtain ⟨i, hi⟩ := evC_ct H c T L _ ha
      dsimp only at hi
      obtain ⟨x, T', L'⟩ := p
      cases x
      · obtain ⟨j, hj⟩ := (loopW_some ..).1 e
        refine (loopW_some ..).2 ⟨max j i + 1, ?_⟩
        have h1 := lev_mono G (Nat.le_max_right j i)
        have h2 := lev_mono G (Nat.le_max_left j i)
        simp only [lev]
        rw [evC_le h1.1 h1.2 H c T L _ hi]
        exact h2.2 _ _ _ _ _ hj
      · exact (loopW_some ..).2 ⟨i + 1, by simp only [lev]; rw [hi]; exact e⟩
      · exact (loopW_some ..).2 ⟨i + 1, by simp only [lev]; rw [hi]; exact e⟩

end W
end Go.Ev
