/- What a function's text comes to, step by step: rules for proofs about the evaluator. -/
import Derived.Test.YtiplefdmpcjgcaaGreatEvLim
namespace Go.Ev
open Go

/-- What simp does not look into. -/
class Vl (α : Type) where
  v : α

theorem allM_idem {α : Type} {f g : α → Option α} (h : ∀ a b, f a = some b → g b = some b) : ∀ (l r : List α), allM f l = some r → allM g r = some r
  | [], r, e => by
    simp only [allM, Option.some.injEq] at e
    subst e
    rfl
  | a :: l, r, e => by
    simp only [allM] at e
    split at e
    · rename_i b s hb hs
      simp only [Option.some.injEq] at e
      subst e
      simp only [allM, h a b hb, allM_idem h l s hs]
    · cases e

/-- What is borrowed once is borrowed. -/
theorem borrow_idem {H : List Lv} {L : Lv} : ∀ (d : Nat) (v v' : AV), borrow H L d v = some v' → borrow H L d v' = some v' := by
  intro d
  induction d with
  | zero =>
    intro v v' h
    cases v <;> simp only [borrow, Option.some.injEq, reduceCtorEq] at h <;> (subst h; rfl)
  | succ d ih =>
    intro v v' h
    cases v with
    | own l b i n sz cl =>
      simp only [borrow] at h
      split at h
      · simp only [Option.map_eq_some_iff] at h
        obtain ⟨ys, _, rfl⟩ := h
        rfl
      · cases h
    | agg cs =>
      simp only [borrow, Option.map_eq_some_iff] at h
      obtain ⟨ys, hys, rfl⟩ := h
      simp only [borrow, allM_idem ih cs ys hys, Option.map]
    | _ =>
      simp only [borrow, Option.some.injEq] at h
      subst h
      rfl

/-- A pure call, what it is handed borrowed already. -/
def pcallB (call : CallT) (H : List Lv) (L : Lv) (f : Nat) (o : Option (List AV)) : Option AV :=
  match o with
  | some bs => pcall call H L f bs
  | none => none

theorem pcallB_some {call : CallT} {H : List Lv} {L : Lv} {f : Nat} {bs : List AV} : pcallB call H L f (some bs) = pcall call H L f bs := rfl

theorem pcall_eq (call : CallT) (H : List Lv) (L : Lv) (f : Nat) (as : List AV) : pcall call H L f as = pcallB call H L f (allM (borrow H L depth) as) := by
  cases h : allM (borrow H L depth) as with
  | none =>
    unfold pcallB pcall
    rw [h]
    simp
  | some bs =>
    have h2 := allM_idem (fun a b e => borrow_idem depth a b e) as bs h
    unfold pcallB pcall
    simp only [h, h2]

theorem doCall_eq (G : GP) (call : CallT) (H : List Lv) (L : Lv) (f : Nat) (as : List AV) : doCall G call H L f as = match G.md f with
    | .pure => (pcallB call H L f (allM (borrow H L depth) as)).map fun r => (r, L)
    | .impure => if f = yieldF then none else call f as H L := by
  unfold doCall
  rw [pcall_eq]
  cases G.md f <;> rfl

section
variable {G : GP} {H : List Lv}

/-- A code comes to an end of which so much holds. -/
def wpC (G : GP) (H : List Lv) (c : C) (T : Tm) (L : Lv) (Q : Ex → Tm → Lv → Prop) : Prop :=
  ∃ e T' L', evC G (callW G) (loopW G) H c T L = some (e, T', L') ∧ Q e T' L'

def wpLoop (G : GP) (H : List Lv) (c : C) (T : Tm) (L : Lv) (Q : Ex → Tm → Lv → Prop) : Prop :=
  ∃ e T' L', loopW G c H T L = some (e, T', L') ∧ Q e T' L'

/-- A test: which way it goes. -/
def wpG (c : Option Bool) (p q : Prop) : Prop :=
  match c with
  | some t => if t = true then p else q
  | none => False

def asB : AV → Option Bool
  | .bool t => some t
  | _ => none

def wpO (o : Option (AV × Lv)) (K : AV → Lv → Prop) : Prop :=
  match o with
  | some (v, L) => K v L
  | none => False

/-- Instructions in the text's order. -/
def wpL (G : GP) (H : List Lv) (is : List I) (E : Tm) (L : Lv) (K : Tm → Lv → Prop) : Prop :=
  match evL G (callW G) H is E L with
  | some (E', L') => K E' L'
  | none => False

/-- An instruction of a region that draws its order, where it is carried out. -/
def stepT (G : GP) (call : CallT) (H : List Lv) (i : I) (σ : DS) : Option DS :=
  match i.i.kd with
  | .r => match (if i.f then floatM σ.W i.v else some (σ.B ++ mask i.v σ.S)) with
    | some Lm => match evR H σ.E Lm i.i with
      | some v => some ⟨dput i.d v σ.E, σ.B, σ.S, σ.W⟩
      | none => none
    | none => none
  | .a => match evA H σ.E i.i with
    | some (b, p) => some ⟨dput i.d (p (σ.B.length + σ.S.length)) σ.E, σ.B, σ.S ++ [b], σ.W⟩
    | none => none
  | .p => match i.i with
    | .call f as => match G.md f with
      | .pure => match pcallB call H (σ.B ++ mask i.v σ.S) f (allM (borrow H (σ.B ++ mask i.v σ.S) depth) (as.map (Od.ev σ.E))) with
        | some v => some ⟨dput i.d v σ.E, σ.B, σ.S, σ.W⟩
        | none => none
      | .impure => match (if f = yieldF then none else call f (as.map (Od.ev σ.E)) H (σ.B ++ σ.S)) with
        | some (v, M) => some ⟨dput i.d v σ.E, M, [], none⟩
        | none => none
    | _ => none
  | .q => match i.i with
    | .ccall x as => match x.ev σ.E with
      | .fn f cap => match G.md f with
        | .pure => match pcallB call H (σ.B ++ mask i.v σ.S) f (allM (borrow H (σ.B ++ mask i.v σ.S) depth) (as.map (Od.ev σ.E) ++ cap)) with
          | some v => some ⟨dput i.d v σ.E, σ.B, σ.S, σ.W⟩
          | none => none
        | .impure => none
      | _ => none
    | _ => none
  | .w => match evW H σ.E (σ.B ++ σ.S) i.i with
    | some (v, M) => some ⟨dput i.d v σ.E, M, [], wslot σ.E σ.B σ.S i.i⟩
    | none => none

/-- The same, where it isn't. -/
def stepF (G : GP) (i : I) (σ : DS) : DS :=
  if isBar G.md i.i then ⟨dput i.d (.tup []) σ.E, σ.B ++ σ.S, [], none⟩ else ⟨dput i.d (.tup []) σ.E, σ.B, if isMk i.i then σ.S ++ [.dead] else σ.S, σ.W⟩

def wpD (G : GP) (H : List Lv) (is : List I) (σ : DS) (K : Tm → Lv → Prop) : Prop :=
  match evD G (callW G) H is σ with
  | some σ' => K σ'.E (σ'.B ++ σ'.S)
  | none => False

def wpDS (o : Option DS) (K : DS → Prop) : Prop :=
  match o with
  | some σ => K σ
  | none => False

def wpReg (G : GP) (H : List Lv) (dr : Bool) (is : List I) (T : Tm) (L : Lv) (Q : Tm → Lv → Prop) : Prop :=
  if dr then wpD G H is ⟨T, L, [], none⟩ fun E L' => Q (keep T E) L' else wpL G H is T L fun E L' => Q (keep T E) L'

def thenQ (G : GP) (H : List Lv) (b : C) (Q : Ex → Tm → Lv → Prop) : Ex → Tm → Lv → Prop
  | .normal, T, L => wpC G H b T L Q
  | .exit n, T, L => Q (.exit n) T L
  | .ret, T, L => Q .ret T L

def blockQ (n : Nat) (Q : Ex → Tm → Lv → Prop) : Ex → Tm → Lv → Prop
  | .normal, T, L => Q .normal T L
  | .exit m, T, L => if m = n then Q .normal T L else Q (.exit m) T L
  | .ret, T, L => Q .ret T L

theorem some_and {Q : Ex → Tm → Lv → Prop} {e : Ex} {T : Tm} {L : Lv} : (∃ e' T' L', some (e, T, L) = some (e', T', L') ∧ Q e' T' L') ↔ Q e T L := by
  constructor
  · rintro ⟨e', T', L', h, hq⟩
    simp only [Option.some.injEq, Prod.mk.injEq] at h
    obtain ⟨rfl, rfl, rfl⟩ := h
    exact hq
  · intro h
    exact ⟨_, _, _, rfl, h⟩

theorem wpC_skip {T : Tm} {L : Lv} {Q : Ex → Tm → Lv → Prop} : wpC G H .skip T L Q ↔ Q .normal T L := some_and

theorem wpC_exit {n : Nat} {T : Tm} {L : Lv} {Q : Ex → Tm → Lv → Prop} : wpC G H (.exit n) T L Q ↔ Q (.exit n) T L := some_and

theorem wpC_ret {T : Tm} {L : Lv} {Q : Ex → Tm → Lv → Prop} : wpC G H .ret T L Q ↔ Q .ret T L := some_and

theorem wpC_seq {a b : C} {T : Tm} {L : Lv} {Q : Ex → Tm → Lv → Prop} : wpC G H (.seq a b) T L Q ↔ wpC G H a T L (thenQ G H b Q) := by
  unfold wpC
  simp only [evC]
  constructor
  · rintro ⟨e, T', L', h, hq⟩
    cases ha : evC G (callW G) (loopW G) H a T L with
    | none => rw [ha] at h; cases h
    | some p =>
      obtain ⟨x, T1, L1⟩ := p
      rw [ha] at h
      refine ⟨x, T1, L1, rfl, ?_⟩
      cases x with
      | normal => exact ⟨e, T', L', h, hq⟩
      | exit n => simp only [Option.some.injEq, Prod.mk.injEq] at h; obtain ⟨rfl, rfl, rfl⟩ := h; exact hq
      | ret => simp only [Option.some.injEq, Prod.mk.injEq] at h; obtain ⟨rfl, rfl, rfl⟩ := h; exact hq
  · rintro ⟨x, T1, L1, h, hq⟩
    rw [h]
    cases x with
    | normal => exact hq
    | exit n => exact ⟨_, _, _, rfl, hq⟩
    | ret => exact ⟨_, _, _, rfl, hq⟩

theorem wpC_cond {x : Od} {a b : C} {T : Tm} {L : Lv} {Q : Ex → Tm → Lv → Prop} : wpC G H (.cond x a b) T L Q ↔ wpG (asB (x.ev T)) (wpC G H a T L Q) (wpC G H b T L Q) := by
  unfold wpC wpG
  simp only [evC]
  cases x.ev T <;> simp [asB]
  rename_i t
  cases t <;> simp

theorem wpC_block {n : Nat} {c : C} {T : Tm} {L : Lv} {Q : Ex → Tm → Lv → Prop} : wpC G H (.block n c) T L Q ↔ wpC G H c T L (blockQ n Q) := by
  unfold wpC
  simp only [evC]
  constructor
  · rintro ⟨e, T', L', h, hq⟩
    cases ha : evC G (callW G) (loopW G) H c T L with
    | none => rw [ha] at h; cases h
    | some p =>
      obtain ⟨x, T1, L1⟩ := p
      rw [ha] at h
      refine ⟨x, T1, L1, rfl, ?_⟩
      cases x with
      | normal => simp only [Option.some.injEq, Prod.mk.injEq] at h; obtain ⟨rfl, rfl, rfl⟩ := h; exact hq
      | exit m =>
        simp only [Option.some.injEq, Prod.mk.injEq] at h
        obtain ⟨rfl, rfl, rfl⟩ := h
        simp only [blockQ]
        split
        · rename_i e; rw [if_pos e] at hq; exact hq
        · rename_i e; rw [if_neg e] at hq; exact hq
      | ret => simp only [Option.some.injEq, Prod.mk.injEq] at h; obtain ⟨rfl, rfl, rfl⟩ := h; exact hq
  · rintro ⟨x, T1, L1, h, hq⟩
    rw [h]
    cases x with
    | normal => exact ⟨_, _, _, rfl, hq⟩
    | exit m =>
      refine ⟨_, _, _, rfl, ?_⟩
      simp only [blockQ] at hq
      split
      · rename_i e; rw [if_pos e] at hq; exact hq
      · rename_i e; rw [if_neg e] at hq; exact hq
    | ret => exact ⟨_, _, _, rfl, hq⟩

theorem wpL_nil {E : Tm} {L : Lv} {K : Tm → Lv → Prop} : wpL G H [] E L K ↔ K E L := by
  simp [wpL, evL]

theorem wpL_cons {i : I} {r : List I} {E : Tm} {L : Lv} {K : Tm → Lv → Prop} : wpL G H (i :: r) E L K ↔
    wpG (want i.g E) (wpO (ev1 G (callW G) H E L i.i) fun v L' => wpL G H r (dput i.d v E) L' K) (wpL G H r (dput i.d (.tup []) E) L K) := by
  unfold wpL wpG wpO
  simp only [evL]
  cases hw : want i.g E with
  | none => simp
  | some t =>
    cases t
    · simp
    · simp only [if_true]
      cases ev1 G (callW G) H E L i.i with
      | none => simp
      | some p => simp

theorem wpD_nil {σ : DS} {K : Tm → Lv → Prop} : wpD G H [] σ K ↔ K σ.E (σ.B ++ σ.S) := by
  simp [wpD, evD]

theorem stepD_eq (G : GP) (call : CallT) (H : List Lv) (i : I) (σ : DS) : (stepD G call H i σ).map (·.2) = match want i.g σ.E with
    | some true => stepT G call H i σ
    | some false => some (stepF G i σ)
    | none => none := by
  unfold stepD
  cases hw : want i.g σ.E with
  | none => rfl
  | some t =>
    cases t
    · simp [stepF]
    · simp only [stepT]
      cases hk : i.i.kd with
      | r =>
        simp only
        cases hf : (if i.f then floatM σ.W i.v else some (σ.B ++ mask i.v σ.S)) with
        | none => rfl
        | some Lm =>
          simp only
          cases evR H σ.E Lm i.i <;> rfl
      | a =>
        simp only
        cases evA H σ.E i.i <;> rfl
      | w =>
        simp only
        cases evW H σ.E (σ.B ++ σ.S) i.i <;> rfl
      | p =>
        cases i.i with
        | call f xs =>
          simp only
          cases G.md f with
          | pure =>
            simp only [← pcall_eq]
            cases pcall call H (σ.B ++ mask i.v σ.S) f (xs.map (Od.ev σ.E)) <;> rfl
          | impure =>
            simp only
            cases (if f = yieldF then none else call f (xs.map (Od.ev σ.E)) H (σ.B ++ σ.S)) <;> rfl
        | _ => rfl
      | q =>
        cases i.i with
        | ccall x xs =>
          simp only
          cases x.ev σ.E with
          | fn f cap =>
            simp only
            cases G.md f with
            | pure =>
              simp only [← pcall_eq]
              cases pcall call H (σ.B ++ mask i.v σ.S) f (xs.map (Od.ev σ.E) ++ cap) <;> rfl
            | impure => rfl
          | _ => rfl
        | _ => rfl

theorem wpD_cons {i : I} {r : List I} {σ : DS} {K : Tm → Lv → Prop} : wpD G H (i :: r) σ K ↔
    wpG (want i.g σ.E) (wpDS (stepT G (callW G) H i σ) fun σ' => wpD G H r σ' K) (wpD G H r (stepF G i σ) K) := by
  have he := stepD_eq G (callW G) H i σ
  unfold wpD wpG wpDS
  simp only [evD]
  cases hs : stepD G (callW G) H i σ with
  | none =>
    rw [hs] at he
    cases hw : want i.g σ.E with
    | none => simp
    | some t =>
      cases t
      · rw [hw] at he; cases he
      · rw [hw] at he; simp only [Option.map_none] at he; simp [← he]
  | some p =>
    rw [hs] at he
    cases hw : want i.g σ.E with
    | none => rw [hw] at he; cases he
    | some t =>
      cases t
      · rw [hw] at he; simp only [Option.map_some, Option.some.injEq] at he; simp [← he]
      · rw [hw] at he; simp only [Option.map_some] at he; simp [← he]

theorem wpC_reg {dr : Bool} {is : List I} {T : Tm} {L : Lv} {Q : Ex → Tm → Lv → Prop} : wpC G H (.reg dr is) T L Q ↔ wpReg G H dr is T L (Q .normal) := by
  unfold wpC wpReg wpL wpD
  simp only [evC, Option.map_eq_some_iff]
  cases dr
  · simp only [evReg, Bool.false_eq_true, if_false]
    cases evL G (callW G) H is T L with
    | none => simp
    | some p =>
      simp only [Option.map_some, Option.some.injEq]
      constructor
      · rintro ⟨e, T', L', ⟨⟨T1, L1⟩, h, h2⟩, hq⟩
        simp only [Prod.mk.injEq] at h h2
        obtain ⟨rfl, rfl⟩ := h
        obtain ⟨rfl, rfl, rfl⟩ := h2
        exact hq
      · intro hq
        exact ⟨_, _, _, ⟨_, rfl, rfl⟩, hq⟩
  · simp only [evReg, if_true]
    cases evD G (callW G) H is ⟨T, L, [], none⟩ with
    | none => simp
    | some p =>
      simp only [Option.map_some, Option.some.injEq]
      constructor
      · rintro ⟨e, T', L', ⟨⟨T1, L1⟩, h, h2⟩, hq⟩
        simp only [Prod.mk.injEq] at h h2
        obtain ⟨rfl, rfl⟩ := h
        obtain ⟨rfl, rfl, rfl⟩ := h2
        exact hq
      · intro hq
        exact ⟨_, _, _, ⟨_, rfl, rfl⟩, hq⟩

theorem wpG_true {p q : Prop} : wpG (some true) p q ↔ p := by simp [wpG]
theorem wpG_false {p q : Prop} : wpG (some false) p q ↔ q := by simp [wpG]
/-- A test whose answer isn't known. -/
theorem wpG_some {t : Bool} {p q : Prop} (h : t = true → p) (k : t = false → q) : wpG (some t) p q := by
  cases t
  · exact wpG_false.2 (k rfl)
  · exact wpG_true.2 (h rfl)
theorem wpG_dec {c : Prop} [Decidable c] {p q : Prop} (h : c → p) (k : ¬ c → q) : wpG (some (decide c)) p q :=
  wpG_some (fun e => h (by simpa using e)) (fun e => k (by simpa using e))
theorem wpG_ndec {c : Prop} [Decidable c] {p q : Prop} (h : ¬ c → p) (k : c → q) : wpG (some (!decide c)) p q :=
  wpG_some (fun e => h (by simpa using e)) (fun e => k (by simpa using e))

theorem wpC_loop {c : C} {T : Tm} {L : Lv} {Q : Ex → Tm → Lv → Prop} : wpC G H (.loop c) T L Q ↔ wpLoop G H c T L Q := Iff.rfl

theorem wpC_mono {c : C} {T : Tm} {L : Lv} {Q R : Ex → Tm → Lv → Prop} (h : wpC G H c T L Q) (k : ∀ e T' L', Q e T' L' → R e T' L') : wpC G H c T L R := by
  obtain ⟨e, T', L', h1, h2⟩ := h
  exact ⟨e, T', L', h1, k _ _ _ h2⟩

theorem wpLoop_mono {c : C} {T : Tm} {L : Lv} {Q R : Ex → Tm → Lv → Prop} (h : wpLoop G H c T L Q) (k : ∀ e T' L', Q e T' L' → R e T' L') : wpLoop G H c T L R := by
  obtain ⟨e, T', L', h1, h2⟩ := h
  exact ⟨e, T', L', h1, k _ _ _ h2⟩

/-- Behind a round that goes on. -/
def gAgain (T : Tm) (L : Lv) [P : Vl (Tm → Lv → Prop)] : Prop := P.v T L
theorem gAgain_intro {T : Tm} {L : Lv} {P : Tm → Lv → Prop} (h : P T L) : @gAgain T L ⟨P⟩ := h

/-- What is behind a round: another one, or the loop's end. -/
def roundQ (P : Tm → Lv → Prop) (Q : Ex → Tm → Lv → Prop) : Ex → Tm → Lv → Prop
  | .normal, T, L => @gAgain T L ⟨P⟩
  | .exit n, T, L => Q (.exit n) T L
  | .ret, T, L => Q .ret T L

theorem wpLoop_step {c : C} {T : Tm} {L : Lv} {Q : Ex → Tm → Lv → Prop} (h : wpC G H c T L (roundQ (fun T' L' => wpLoop G H c T' L' Q) Q)) : wpLoop G H c T L Q := by
  obtain ⟨e, T', L', h1, h2⟩ := h
  unfold wpLoop
  rw [loopW_eq, h1]
  cases e with
  | normal => exact h2
  | exit n => exact ⟨_, _, _, rfl, h2⟩
  | ret => exact ⟨_, _, _, rfl, h2⟩

/-- A loop by what stays so, and what falls. -/
theorem wpLoop_inv {c : C} {Q : Ex → Tm → Lv → Prop} (I : Nat → Tm → Lv → Prop) (h : ∀ k T L, I k T L → wpC G H c T L (roundQ (fun T' L' => ∃ k', k' < k ∧ I k' T' L') Q)) : ∀ k T L, I k T L → wpLoop G H c T L Q := by
  intro k
  induction k using Nat.strongRecOn with
  | _ k ih =>
    intro T L hi
    refine wpLoop_step (wpC_mono (h k T L hi) fun e T' L' hq => ?_)
    cases e with
    | normal => obtain ⟨k', h1, h2⟩ := hq; exact ih k' h1 T' L' h2
    | exit n => exact hq
    | ret => exact hq

/-- How a function ends. -/
def retQ (H : List Lv) (res : List RV) (R : AV → Lv → Prop) : Ex → Tm → Lv → Prop
  | .exit _, _, _ => False
  | _, T, L => ∃ vs, evRes H T L res = some vs ∧ R (one vs) L

def vThen (G : GP) (H : List Lv) (b : C) [Q : Vl (Ex → Tm → Lv → Prop)] : Ex → Tm → Lv → Prop := thenQ G H b Q.v
def vBlock (n : Nat) [Q : Vl (Ex → Tm → Lv → Prop)] : Ex → Tm → Lv → Prop := blockQ n Q.v
def vRound [P : Vl (Tm → Lv → Prop)] [Q : Vl (Ex → Tm → Lv → Prop)] : Ex → Tm → Lv → Prop := roundQ P.v Q.v
def vRet (H : List Lv) (res : List RV) [R : Vl (AV → Lv → Prop)] : Ex → Tm → Lv → Prop := retQ H res R.v
def vEnd (o : Option (List AV)) (L : Lv) [R : Vl (AV → Lv → Prop)] : Prop := ∃ vs, o = some vs ∧ R.v (one vs) L
theorem vThen_normal {b : C} {Q : Ex → Tm → Lv → Prop} {T : Tm} {L : Lv} : @vThen G H b ⟨Q⟩ .normal T L ↔ wpC G H b T L Q := Iff.rfl
theorem vThen_exit {b : C} {Q : Ex → Tm → Lv → Prop} {n : Nat} {T : Tm} {L : Lv} : @vThen G H b ⟨Q⟩ (.exit n) T L ↔ Q (.exit n) T L := Iff.rfl
theorem vThen_ret {b : C} {Q : Ex → Tm → Lv → Prop} {T : Tm} {L : Lv} : @vThen G H b ⟨Q⟩ .ret T L ↔ Q .ret T L := Iff.rfl
theorem vBlock_normal {m : Nat} {Q : Ex → Tm → Lv → Prop} {T : Tm} {L : Lv} : @vBlock m ⟨Q⟩ .normal T L ↔ Q .normal T L := Iff.rfl
theorem vBlock_exit {m : Nat} {Q : Ex → Tm → Lv → Prop} {n : Nat} {T : Tm} {L : Lv} : @vBlock m ⟨Q⟩ (.exit n) T L ↔ Q (if n = m then .normal else .exit n) T L := by
  show blockQ m Q (.exit n) T L ↔ _
  simp only [blockQ]
  split <;> rfl
theorem vBlock_ret {m : Nat} {Q : Ex → Tm → Lv → Prop} {T : Tm} {L : Lv} : @vBlock m ⟨Q⟩ .ret T L ↔ Q .ret T L := Iff.rfl
theorem vRound_normal {P : Tm → Lv → Prop} {Q : Ex → Tm → Lv → Prop} {T : Tm} {L : Lv} : @vRound ⟨P⟩ ⟨Q⟩ .normal T L ↔ @gAgain T L ⟨P⟩ := Iff.rfl
theorem vRound_exit {P : Tm → Lv → Prop} {Q : Ex → Tm → Lv → Prop} {n : Nat} {T : Tm} {L : Lv} : @vRound ⟨P⟩ ⟨Q⟩ (.exit n) T L ↔ Q (.exit n) T L := Iff.rfl
theorem vRound_ret {P : Tm → Lv → Prop} {Q : Ex → Tm → Lv → Prop} {T : Tm} {L : Lv} : @vRound ⟨P⟩ ⟨Q⟩ .ret T L ↔ Q .ret T L := Iff.rfl
theorem vRet_normal {res : List RV} {R : AV → Lv → Prop} {T : Tm} {L : Lv} : @vRet H res ⟨R⟩ .normal T L ↔ @vEnd (evRes H T L res) L ⟨R⟩ := Iff.rfl
theorem vRet_ret {res : List RV} {R : AV → Lv → Prop} {T : Tm} {L : Lv} : @vRet H res ⟨R⟩ .ret T L ↔ @vEnd (evRes H T L res) L ⟨R⟩ := Iff.rfl
theorem vEnd_some {vs : List AV} {L : Lv} {R : AV → Lv → Prop} : @vEnd (some vs) L ⟨R⟩ ↔ R (one vs) L := by simp [vEnd]

def gG (c : Option Bool) [p : Vl Prop] [q : Vl Prop] : Prop := wpG c p.v q.v
def gO (o : Option (AV × Lv)) [K : Vl (AV → Lv → Prop)] : Prop := wpO o K.v
def gDS (o : Option DS) [K : Vl (DS → Prop)] : Prop := wpDS o K.v
def gL (G : GP) (H : List Lv) (is : List I) (E : Tm) (L : Lv) [K : Vl (Tm → Lv → Prop)] : Prop := wpL G H is E L K.v
def gD (G : GP) (H : List Lv) (is : List I) (σ : DS) [K : Vl (Tm → Lv → Prop)] : Prop := wpD G H is σ K.v
def gC (G : GP) (H : List Lv) (c : C) (T : Tm) (L : Lv) [K : Vl (Ex → Tm → Lv → Prop)] : Prop := wpC G H c T L K.v
def gLoop (G : GP) (H : List Lv) (c : C) (T : Tm) (L : Lv) [K : Vl (Ex → Tm → Lv → Prop)] : Prop := wpLoop G H c T L K.v

theorem gC_skip {T : Tm} {L : Lv} {Q : Ex → Tm → Lv → Prop} : @gC G H .skip T L ⟨Q⟩ ↔ Q .normal T L := wpC_skip
theorem gC_exit {n : Nat} {T : Tm} {L : Lv} {Q : Ex → Tm → Lv → Prop} : @gC G H (.exit n) T L ⟨Q⟩ ↔ Q (.exit n) T L := wpC_exit
theorem gC_ret {T : Tm} {L : Lv} {Q : Ex → Tm → Lv → Prop} : @gC G H .ret T L ⟨Q⟩ ↔ Q .ret T L := wpC_ret
theorem gC_seq {a b : C} {T : Tm} {L : Lv} {Q : Ex → Tm → Lv → Prop} : @gC G H (.seq a b) T L ⟨Q⟩ ↔ @gC G H a T L ⟨@vThen G H b ⟨Q⟩⟩ := wpC_seq
theorem gC_cond {x : Od} {a b : C} {T : Tm} {L : Lv} {Q : Ex → Tm → Lv → Prop} : @gC G H (.cond x a b) T L ⟨Q⟩ ↔ @gG (asB (x.ev T)) ⟨@gC G H a T L ⟨Q⟩⟩ ⟨@gC G H b T L ⟨Q⟩⟩ := wpC_cond
theorem gC_block {n : Nat} {c : C} {T : Tm} {L : Lv} {Q : Ex → Tm → Lv → Prop} : @gC G H (.block n c) T L ⟨Q⟩ ↔ @gC G H c T L ⟨@vBlock n ⟨Q⟩⟩ := wpC_block
theorem gC_loop {c : C} {T : Tm} {L : Lv} {Q : Ex → Tm → Lv → Prop} : @gC G H (.loop c) T L ⟨Q⟩ ↔ @gLoop G H c T L ⟨Q⟩ := Iff.rfl
theorem gC_reg {is : List I} {T : Tm} {L : Lv} {Q : Ex → Tm → Lv → Prop} : @gC G H (.reg false is) T L ⟨Q⟩ ↔ @gL G H is T L ⟨fun E L' => Q .normal (keep T E) L'⟩ := wpC_reg
theorem gC_regD {is : List I} {T : Tm} {L : Lv} {Q : Ex → Tm → Lv → Prop} : @gC G H (.reg true is) T L ⟨Q⟩ ↔ @gD G H is ⟨T, L, [], none⟩ ⟨fun E L' => Q .normal (keep T E) L'⟩ := wpC_reg
theorem gL_nil {E : Tm} {L : Lv} {K : Tm → Lv → Prop} : @gL G H [] E L ⟨K⟩ ↔ K E L := wpL_nil
theorem gL_cons {i : I} {r : List I} {E : Tm} {L : Lv} {K : Tm → Lv → Prop} : @gL G H (i :: r) E L ⟨K⟩ ↔
    @gG (want i.g E) ⟨@gO (ev1 G (callW G) H E L i.i) ⟨fun v L' => @gL G H r (dput i.d v E) L' ⟨K⟩⟩⟩ ⟨@gL G H r (dput i.d (.tup []) E) L ⟨K⟩⟩ := wpL_cons
theorem gD_nil {σ : DS} {K : Tm → Lv → Prop} : @gD G H [] σ ⟨K⟩ ↔ K σ.E (σ.B ++ σ.S) := wpD_nil
theorem gD_cons {i : I} {r : List I} {σ : DS} {K : Tm → Lv → Prop} : @gD G H (i :: r) σ ⟨K⟩ ↔
    @gG (want i.g σ.E) ⟨@gDS (stepT G (callW G) H i σ) ⟨fun σ' => @gD G H r σ' ⟨K⟩⟩⟩ ⟨@gD G H r (stepF G i σ) ⟨K⟩⟩ := wpD_cons
theorem gG_true {p q : Prop} : @gG (some true) ⟨p⟩ ⟨q⟩ ↔ p := wpG_true
theorem gG_false {p q : Prop} : @gG (some false) ⟨p⟩ ⟨q⟩ ↔ q := wpG_false
theorem gO_some {v : AV} {L : Lv} {K : AV → Lv → Prop} : @gO (some (v, L)) ⟨K⟩ ↔ K v L := Iff.rfl
theorem gDS_some {σ : DS} {K : DS → Prop} : @gDS (some σ) ⟨K⟩ ↔ K σ := Iff.rfl
theorem gThen_normal {b : C} {Q : Ex → Tm → Lv → Prop} {T : Tm} {L : Lv} : @vThen G H b ⟨Q⟩ .normal T L ↔ @gC G H b T L ⟨Q⟩ := Iff.rfl

/-- A test whose answer isn't known. -/
theorem gG_some {t : Bool} {p q : Prop} (h : t = true → p) (k : t = false → q) : @gG (some t) ⟨p⟩ ⟨q⟩ := wpG_some h k
theorem gG_dec {c : Prop} [Decidable c] {p q : Prop} (h : c → p) (k : ¬ c → q) : @gG (some (decide c)) ⟨p⟩ ⟨q⟩ := wpG_dec h k
theorem gG_ndec {c : Prop} [Decidable c] {p q : Prop} (h : ¬ c → p) (k : c → q) : @gG (some (!decide c)) ⟨p⟩ ⟨q⟩ := wpG_ndec h k

theorem gLoop_inv {c : C} {Q : Ex → Tm → Lv → Prop} (I : Nat → Tm → Lv → Prop) (k : Nat) {T : Tm} {L : Lv} (hi : I k T L) (h : ∀ k T L, I k T L → @gC G H c T L ⟨@vRound ⟨fun T' L' => ∃ k', k' < k ∧ I k' T' L'⟩ ⟨Q⟩⟩) : @gLoop G H c T L ⟨Q⟩ :=
  wpLoop_inv I h k T L hi

theorem gLoop_step {c : C} {T : Tm} {L : Lv} {Q : Ex → Tm → Lv → Prop} (h : @gC G H c T L ⟨@vRound ⟨fun T' L' => @gLoop G H c T' L' ⟨Q⟩⟩ ⟨Q⟩⟩) : @gLoop G H c T L ⟨Q⟩ := wpLoop_step h

theorem gC_mono {c : C} {T : Tm} {L : Lv} {Q R : Ex → Tm → Lv → Prop} (h : @gC G H c T L ⟨Q⟩) (k : ∀ e T' L', Q e T' L' → R e T' L') : @gC G H c T L ⟨R⟩ := wpC_mono h k
theorem gLoop_mono {c : C} {T : Tm} {L : Lv} {Q R : Ex → Tm → Lv → Prop} (h : @gLoop G H c T L ⟨Q⟩) (k : ∀ e T' L', Q e T' L' → R e T' L') : @gLoop G H c T L ⟨R⟩ := wpLoop_mono h k

theorem call_of_wp {f : Nat} {vs : List Nat} {code : C} {res : List RV} {as : List AV} {L : Lv} {R : AV → Lv → Prop} (hx : G.ex f = none) (hf : G.fn f = some ⟨vs, code, res⟩) (h : @gC G H code (start vs as) L ⟨@vRet H res ⟨R⟩⟩) :
    ∃ v L', callW G f as H L = some (v, L') ∧ R v L' := by
  obtain ⟨e, T', L', h1, h2⟩ := h
  rw [callW_eq f as H L hx hf, evFn, h1]
  cases e with
  | normal => obtain ⟨vs, h3, h4⟩ := h2; exact ⟨_, _, by simp [h3], h4⟩
  | exit n => exact h2.elim
  | ret => obtain ⟨vs, h3, h4⟩ := h2; exact ⟨_, _, by simp [h3], h4⟩

/-- A pure call, by its function's text. -/
theorem pcall_of_wp {f : Nat} {vs : List Nat} {code : C} {res : List RV} {as : List AV} {L : Lv} {v : AV} (hx : G.ex f = none) (hf : G.fn f = some ⟨vs, code, res⟩) (hb : allM (borrow H L depth) as = some as) (hy : f ≠ yieldF)
    (h : @gC G (L :: H) code (start vs as) [] ⟨@vRet (L :: H) res ⟨fun r M => freeze (L :: H) M depth r = some v⟩⟩) : pcall (callW G) H L f as = some v := by
  obtain ⟨r, M, h1, h2⟩ := call_of_wp hx hf h
  unfold pcall
  rw [if_neg hy, hb]
  simp only [h1, h2]

/-- What a call is handed is borrowed. -/
theorem pcall_borrow {call : CallT} {f : Nat} {as bs : List AV} {L : Lv} (h1 : allM (borrow H L depth) as = some bs) (h2 : allM (borrow H L depth) bs = some bs) : pcall call H L f as = pcall call H L f bs := by
  unfold pcall
  rw [h1, h2]

end

theorem lv_ne2 (n : Nat) : (n = n + 1 + 1) = False := by simp only [eq_iff_iff, iff_false]; omega
theorem lv_lt2 (n : Nat) : (n < n + 1 + 1) = True := by simp only [eq_iff_iff, iff_true]; omega
theorem lv_ne3 (n : Nat) : (n = n + 1 + 1 + 1) = False := by simp only [eq_iff_iff, iff_false]; omega
theorem lv_lt3 (n : Nat) : (n < n + 1 + 1 + 1) = True := by simp only [eq_iff_iff, iff_true]; omega

theorem ne_yield {f : Nat} (h : f < 100000) : (f = yieldF) = False := by
  simp only [yieldF, eq_iff_iff, iff_false]
  omega

section
variable {G : GP} {H : List Lv}

/-- A call that is walked into: its function's text, in its caller's level. -/
theorem gO_call {f : Nat} {vs : List Nat} {code : C} {res : List RV} {as : List AV} {L : Lv} {K : AV → Lv → Prop} (hx : G.ex f = none) (hf : G.fn f = some ⟨vs, code, res⟩)
    (h : @gC G H code (start vs as) L ⟨@vRet H res ⟨K⟩⟩) : @gO (callW G f as H L) ⟨K⟩ := by
  obtain ⟨v, L', h1, h2⟩ := call_of_wp hx hf h
  rw [h1]
  exact h2

theorem gO_mono {o : Option (AV × Lv)} {K K' : AV → Lv → Prop} (h : @gO o ⟨K⟩) (k : ∀ v L, K v L → K' v L) : @gO o ⟨K'⟩ := by
  cases o with
  | none => exact h.elim
  | some p => exact k _ _ h

/-- What a round hands to the function that called 'yield'. -/
def yldQ (b : Nat) (ab : AB) (K : AV → Lv → Prop) : Ex → Tm → Lv → Prop
  | .normal, _, L => L[b]? = some .dead ∧ K (.bool true) (L.set b ab)
  | _, _, _ => False

/-- One round of a loop over a function. -/
theorem gO_yield {b : Nat} {vs : List AV} {ps : List Nat} {T : Tm} {asg bd : C} {L : Lv} {K : AV → Lv → Prop} (hx : G.ex yieldF = none) (hf : G.fn yieldF = none) (hb : L[b]? = some (.loop ps T asg bd)) (hl : ps.length = vs.length)
    (h : @gC G H (.seq asg bd) (bindP ps vs T) (L.set b .dead) ⟨yldQ b (.loop ps T asg bd) K⟩) : @gO (callW G yieldF (.yl H.length b :: vs) H L) ⟨K⟩ := by
  obtain ⟨e, T', L', h1, h2⟩ := h
  rw [callW_yield _ _ _ hx hf, evY]
  simp only [if_true, hb, hl, h1]
  cases e with
  | normal =>
    simp only [yldQ] at h2
    simp only [h2.1]
    exact h2.2
  | exit n => exact h2.elim
  | ret => exact h2.elim

/-- What is behind a loop over a function. -/
def rngQ (b : Nat) (T : Tm) (Q : Ex → Tm → Lv → Prop) : AV → Lv → Prop := fun _ L => (∃ ps T' asg bd, L[b]? = some (.loop ps T' asg bd)) ∧ Q .normal T (L.set b .dead)

/-- A loop over a function. -/
theorem gC_range {x : Od} {ps : List Nat} {asg bd : C} {T : Tm} {L : Lv} {Q : Ex → Tm → Lv → Prop} {f : Nat} {cap : List AV} (hx : x.ev T = .fn f cap) (hy : f ≠ yieldF)
    (h : @gO (callW G f (.yl H.length L.length :: cap) H (L ++ [.loop ps T asg bd])) ⟨rngQ L.length T Q⟩) : @gC G H (.range x ps asg bd) T L ⟨Q⟩ := by
  show wpC G H _ T L Q
  unfold wpC
  simp only [evC, hx, if_neg hy]
  cases hc : callW G f (.yl H.length L.length :: cap) H (L ++ [.loop ps T asg bd]) with
  | none => rw [hc] at h; exact h.elim
  | some p =>
    rw [hc] at h
    obtain ⟨⟨ps', T', asg', bd', h1⟩, h2⟩ := h
    simp only [h1]
    exact ⟨_, _, _, rfl, h2⟩

end

/-- An append. -/
def appX (H : List Lv) (L : Lv) (sz bytes : Nat) (v w : AV) : Option (AV × Lv) :=
  match elems H L v, elems H L w with
  | some xs, some ys =>
    if (xs.length + ys.length) ≤ 9223372036854775807 ∧ (xs.length + ys.length) * bytes ≤ 140737488355328 ∧ ys.all (fun c => decide (c.length = sz)) then
      appV H L sz v xs ys
    else none
  | _, _ => none

section
variable {H : List Lv} {E : Tm} {L : Lv}
theorem evW_st {sz : Nat} {a x : Od} : evW H E L (.st sz a x) = match a.ev E with
    | .ptr l b i => match getB H L l b with
      | some (.cells cs) => match (x.ev E).lay with
        | some vs => if vs.length = sz ∧ i + sz ≤ cs.length then (setB H L l b (.cells (put cs i vs))).map fun L' => (.un, L') else none
        | none => none
      | _ => none
    | _ => none := rfl
theorem evW_mset {m k v : Od} : evW H E L (.mset m k v) = match m.ev E with
    | .mp l b => match getB H L l b with
      | some (.map es) => if oddKey (k.ev E) || oddVal (v.ev E) then none else match findK (k.ev E) es 0 with
        | some (some (i, _)) => (setB H L l b (.map (es.set i (k.ev E, v.ev E)))).map fun L' => (.un, L')
        | some none => (setB H L l b (.map (es ++ [(k.ev E, v.ev E)]))).map fun L' => (.un, L')
        | none => none
      | _ => none
    | _ => none := rfl
theorem evW_app {sz by_ : Nat} {s x : Od} : evW H E L (.app sz by_ s x) = appX H L sz by_ (s.ev E) (x.ev E) := rfl
theorem evW_copy {sz : Nat} {d s : Od} : evW H E L (.copy sz d s) = match elems H L (s.ev E) with
    | some ys => copyV H L sz (d.ev E) ys
    | none => none := rfl
theorem evW_clear {sz : Nat} {z : List AV} {x : Od} : evW H E L (.clear sz z x) = clearV H L sz z (x.ev E) := rfl
end

/-- What a slice that grows has: nothing; or a block of the level, behind its first 'k'. -/
def Acc (H : List Lv) (k : Nat) (R : Lv) (sz : Nat) (v : AV) (xs : List (List AV)) : Prop :=
  (v = nilS ∧ xs = []) ∨ ∃ b, v = .own H.length (b + k) 0 xs.length sz false ∧ R[b]? = some (.cells xs.flatten) ∧ (∀ x ∈ xs, x.length = sz) ∧ xs ≠ []

theorem Acc.grow {H : List Lv} {k : Nat} {R : Lv} {sz : Nat} {v : AV} {xs : List (List AV)} (h : Acc H k R sz v xs) (S : Lv) : Acc H k (R ++ S) sz v xs := by
  rcases h with h | ⟨b, h1, h2, h3⟩
  · exact .inl h
  · refine .inr ⟨b, h1, ?_, h3⟩
    rw [List.getElem?_append_left (List.getElem?_eq_some_iff.1 h2).1]
    exact h2

theorem chunk_flat {sz : Nat} : ∀ (xs : List (List AV)), (∀ x ∈ xs, x.length = sz) → chunk sz xs.length xs.flatten = xs
  | [], _ => rfl
  | x :: xs, h => by
    have hx := h x (by simp)
    simp only [List.length_cons, chunk, List.flatten_cons]
    rw [List.take_left' hx, List.drop_left' hx, chunk_flat xs (fun y hy => h y (by simp [hy]))]

theorem flat_len {sz : Nat} : ∀ (xs : List (List AV)), (∀ x ∈ xs, x.length = sz) → xs.flatten.length = xs.length * sz
  | [], _ => by simp
  | x :: xs, h => by
    rw [List.flatten_cons, List.length_append, flat_len xs (fun y hy => h y (by simp [hy])), h x (by simp), List.length_cons, Nat.add_mul]
    omega

theorem getB_pre {H : List Lv} {P R : Lv} {b : Nat} : getB H (P ++ R) H.length (b + P.length) = R[b]? := by
  unfold getB
  rw [if_pos rfl, List.getElem?_append_right (by omega)]
  congr 1
  omega

theorem Acc.elems {H : List Lv} {P R : Lv} {sz : Nat} {v : AV} {xs : List (List AV)} (h : Acc H P.length R sz v xs) : elems H (P ++ R) v = some xs := by
  rcases h with ⟨rfl, rfl⟩ | ⟨b, rfl, h1, h2⟩
  · rfl
  · obtain ⟨h2, _⟩ := h2
    simp only [Ev.elems, getB_pre, h1, Nat.zero_add, flat_len xs h2, Nat.le_refl, if_true, List.drop_zero, chunk_flat xs h2]

/-- One appends to it. -/
theorem Acc.app {H : List Lv} {P R : Lv} {sz bytes : Nat} {v w : AV} {xs ys : List (List AV)} (h : Acc H P.length R sz v xs) (hw : Ev.elems H (P ++ R) w = some ys) (hy : ∀ y ∈ ys, y.length = sz) (h0 : ys ≠ []) (hs : 0 < sz)
    (hn : xs.length + ys.length ≤ 9223372036854775807) (hb : (xs.length + ys.length) * bytes ≤ 140737488355328) :
    ∃ v' R', appX H (P ++ R) sz bytes v w = some (v', P ++ R') ∧ Acc H P.length R' sz v' (xs ++ ys) ∧ R.length ≤ R'.length ∧ ∀ j, (∀ n, v ≠ .own H.length (j + P.length) 0 n sz false) → j < R.length → R'[j]? = R[j]? := by
  have hall : ys.all (fun c => decide (c.length = sz)) = true := by
    simp only [List.all_eq_true, decide_eq_true_eq]; exact hy
  have he := h.elems
  unfold appX
  rw [he, hw]
  simp only [hn, hb, hall, and_self, if_true]
  rcases h with ⟨rfl, rfl⟩ | ⟨b, rfl, h1, h2⟩
  · refine ⟨.own H.length (R.length + P.length) 0 ys.length sz false, R ++ [.cells ys.flatten], ?_, .inr ⟨R.length, by simp, by simp, by simpa using hy, by simpa using h0⟩, by simp, fun j _ hj => by rw [List.getElem?_append_left hj]⟩
    simp [nilS, appV, h0, Nat.add_comm]
  · obtain ⟨h2, h2n⟩ := h2
    have hbl := (List.getElem?_eq_some_iff.1 h1).1
    refine ⟨.own H.length (R.length + P.length) 0 (xs.length + ys.length) sz false, R.set b .dead ++ [.cells (xs.flatten ++ ys.flatten)], ?_, .inr ⟨R.length, by simp, ?_, fun x hx => ?_, by simp [h2n]⟩, by simp, fun j hj hjl => ?_⟩
    · have hf := flat_len xs h2
      have hyl : 0 < ys.length := by cases ys with
        | nil => exact absurd rfl h0
        | cons _ _ => simp
      have hlt : ¬ ((xs.length + ys.length) * sz ≤ xs.length * sz) := by
        rw [Nat.add_mul]
        have : 0 < ys.length * sz := Nat.mul_pos hyl hs
        omega
      have hset : (P ++ R).set (b + P.length) .dead = P ++ R.set b .dead := by
        rw [List.set_append_right _ _ (by omega)]
        congr 2
        omega
      simp only [appV, ne_eq, not_true_eq_false, if_false, h0, Bool.false_eq_true, getB_pre, h1, Nat.zero_add, hf]
      rw [if_neg hlt]
      simp only [if_true, setB, List.length_append, true_and]
      rw [if_pos (by omega), hset]
      simp [Nat.add_comm]
    · rw [List.getElem?_append_right (by simp)]
      simp
    · simp only [List.mem_append] at hx
      exact hx.elim (h2 x) (hy x)
    · have hne : b ≠ j := fun e => hj xs.length (by rw [e])
      rw [List.getElem?_append_left (by simpa using hjl), List.getElem?_set_ne hne]

theorem gO_app0 {H : List Lv} {R : Lv} {sz bytes : Nat} {v w : AV} {xs ys : List (List AV)} {K : AV → Lv → Prop} (h : Acc H 0 R sz v xs) (hw : elems H R w = some ys) (hy : ∀ y ∈ ys, y.length = sz) (h0 : ys ≠ []) (hs : 0 < sz)
    (hn : xs.length + ys.length ≤ 9223372036854775807) (hb : (xs.length + ys.length) * bytes ≤ 140737488355328)
    (hK : ∀ v' R', Acc H 0 R' sz v' (xs ++ ys) → R.length ≤ R'.length → (∀ j, (∀ n, v ≠ .own H.length j 0 n sz false) → j < R.length → R'[j]? = R[j]?) → K v' R') : @gO (appX H R sz bytes v w) ⟨K⟩ := by
  obtain ⟨v', R', h1, h2, h3, h4⟩ := Acc.app (P := []) h hw hy h0 hs hn hb
  have : appX H R sz bytes v w = some (v', R') := h1
  rw [this]
  exact hK v' R' h2 h3 h4

theorem gO_app1 {H : List Lv} {c0 : AB} {R : Lv} {sz bytes : Nat} {v w : AV} {xs ys : List (List AV)} {K : AV → Lv → Prop} (h : Acc H 1 R sz v xs) (hw : elems H (c0 :: R) w = some ys) (hy : ∀ y ∈ ys, y.length = sz) (h0 : ys ≠ []) (hs : 0 < sz)
    (hn : xs.length + ys.length ≤ 9223372036854775807) (hb : (xs.length + ys.length) * bytes ≤ 140737488355328)
    (hK : ∀ v' R', Acc H 1 R' sz v' (xs ++ ys) → R.length ≤ R'.length → (∀ j, (∀ n, v ≠ .own H.length (j + 1) 0 n sz false) → j < R.length → R'[j]? = R[j]?) → K v' (c0 :: R')) : @gO (appX H (c0 :: R) sz bytes v w) ⟨K⟩ := by
  obtain ⟨v', R', h1, h2, h3, h4⟩ := Acc.app (P := [c0]) h hw hy h0 hs hn hb
  have : appX H (c0 :: R) sz bytes v w = some (v', c0 :: R') := h1
  rw [this]
  exact hK v' R' h2 h3 h4

theorem gO_app2 {H : List Lv} {c0 c1 : AB} {R : Lv} {sz bytes : Nat} {v w : AV} {xs ys : List (List AV)} {K : AV → Lv → Prop} (h : Acc H 2 R sz v xs) (hw : elems H (c0 :: c1 :: R) w = some ys) (hy : ∀ y ∈ ys, y.length = sz) (h0 : ys ≠ []) (hs : 0 < sz)
    (hn : xs.length + ys.length ≤ 9223372036854775807) (hb : (xs.length + ys.length) * bytes ≤ 140737488355328)
    (hK : ∀ v' R', Acc H 2 R' sz v' (xs ++ ys) → R.length ≤ R'.length → (∀ j, (∀ n, v ≠ .own H.length (j + 2) 0 n sz false) → j < R.length → R'[j]? = R[j]?) → K v' (c0 :: c1 :: R')) : @gO (appX H (c0 :: c1 :: R) sz bytes v w) ⟨K⟩ := by
  obtain ⟨v', R', h1, h2, h3, h4⟩ := Acc.app (P := [c0, c1]) h hw hy h0 hs hn hb
  have : appX H (c0 :: c1 :: R) sz bytes v w = some (v', c0 :: c1 :: R') := h1
  rw [this]
  exact hK v' R' h2 h3 h4

theorem gO_app3 {H : List Lv} {c0 c1 c2 : AB} {R : Lv} {sz bytes : Nat} {v w : AV} {xs ys : List (List AV)} {K : AV → Lv → Prop} (h : Acc H 3 R sz v xs) (hw : elems H (c0 :: c1 :: c2 :: R) w = some ys) (hy : ∀ y ∈ ys, y.length = sz) (h0 : ys ≠ []) (hs : 0 < sz)
    (hn : xs.length + ys.length ≤ 9223372036854775807) (hb : (xs.length + ys.length) * bytes ≤ 140737488355328)
    (hK : ∀ v' R', Acc H 3 R' sz v' (xs ++ ys) → R.length ≤ R'.length → (∀ j, (∀ n, v ≠ .own H.length (j + 3) 0 n sz false) → j < R.length → R'[j]? = R[j]?) → K v' (c0 :: c1 :: c2 :: R')) : @gO (appX H (c0 :: c1 :: c2 :: R) sz bytes v w) ⟨K⟩ := by
  obtain ⟨v', R', h1, h2, h3, h4⟩ := Acc.app (P := [c0, c1, c2]) h hw hy h0 hs hn hb
  have : appX H (c0 :: c1 :: c2 :: R) sz bytes v w = some (v', c0 :: c1 :: c2 :: R') := h1
  rw [this]
  exact hK v' R' h2 h3 h4

theorem gO_app4 {H : List Lv} {c0 c1 c2 c3 : AB} {R : Lv} {sz bytes : Nat} {v w : AV} {xs ys : List (List AV)} {K : AV → Lv → Prop} (h : Acc H 4 R sz v xs) (hw : elems H (c0 :: c1 :: c2 :: c3 :: R) w = some ys) (hy : ∀ y ∈ ys, y.length = sz) (h0 : ys ≠ []) (hs : 0 < sz)
    (hn : xs.length + ys.length ≤ 9223372036854775807) (hb : (xs.length + ys.length) * bytes ≤ 140737488355328)
    (hK : ∀ v' R', Acc H 4 R' sz v' (xs ++ ys) → R.length ≤ R'.length → (∀ j, (∀ n, v ≠ .own H.length (j + 4) 0 n sz false) → j < R.length → R'[j]? = R[j]?) → K v' (c0 :: c1 :: c2 :: c3 :: R')) : @gO (appX H (c0 :: c1 :: c2 :: c3 :: R) sz bytes v w) ⟨K⟩ := by
  obtain ⟨v', R', h1, h2, h3, h4⟩ := Acc.app (P := [c0, c1, c2, c3]) h hw hy h0 hs hn hb
  have : appX H (c0 :: c1 :: c2 :: c3 :: R) sz bytes v w = some (v', c0 :: c1 :: c2 :: c3 :: R') := h1
  rw [this]
  exact hK v' R' h2 h3 h4

theorem gO_app5 {H : List Lv} {c0 c1 c2 c3 c4 : AB} {R : Lv} {sz bytes : Nat} {v w : AV} {xs ys : List (List AV)} {K : AV → Lv → Prop} (h : Acc H 5 R sz v xs) (hw : elems H (c0 :: c1 :: c2 :: c3 :: c4 :: R) w = some ys) (hy : ∀ y ∈ ys, y.length = sz) (h0 : ys ≠ []) (hs : 0 < sz)
    (hn : xs.length + ys.length ≤ 9223372036854775807) (hb : (xs.length + ys.length) * bytes ≤ 140737488355328)
    (hK : ∀ v' R', Acc H 5 R' sz v' (xs ++ ys) → R.length ≤ R'.length → (∀ j, (∀ n, v ≠ .own H.length (j + 5) 0 n sz false) → j < R.length → R'[j]? = R[j]?) → K v' (c0 :: c1 :: c2 :: c3 :: c4 :: R')) : @gO (appX H (c0 :: c1 :: c2 :: c3 :: c4 :: R) sz bytes v w) ⟨K⟩ := by
  obtain ⟨v', R', h1, h2, h3, h4⟩ := Acc.app (P := [c0, c1, c2, c3, c4]) h hw hy h0 hs hn hb
  have : appX H (c0 :: c1 :: c2 :: c3 :: c4 :: R) sz bytes v w = some (v', c0 :: c1 :: c2 :: c3 :: c4 :: R') := h1
  rw [this]
  exact hK v' R' h2 h3 h4

theorem gO_app6 {H : List Lv} {c0 c1 c2 c3 c4 c5 : AB} {R : Lv} {sz bytes : Nat} {v w : AV} {xs ys : List (List AV)} {K : AV → Lv → Prop} (h : Acc H 6 R sz v xs) (hw : elems H (c0 :: c1 :: c2 :: c3 :: c4 :: c5 :: R) w = some ys) (hy : ∀ y ∈ ys, y.length = sz) (h0 : ys ≠ []) (hs : 0 < sz)
    (hn : xs.length + ys.length ≤ 9223372036854775807) (hb : (xs.length + ys.length) * bytes ≤ 140737488355328)
    (hK : ∀ v' R', Acc H 6 R' sz v' (xs ++ ys) → R.length ≤ R'.length → (∀ j, (∀ n, v ≠ .own H.length (j + 6) 0 n sz false) → j < R.length → R'[j]? = R[j]?) → K v' (c0 :: c1 :: c2 :: c3 :: c4 :: c5 :: R')) : @gO (appX H (c0 :: c1 :: c2 :: c3 :: c4 :: c5 :: R) sz bytes v w) ⟨K⟩ := by
  obtain ⟨v', R', h1, h2, h3, h4⟩ := Acc.app (P := [c0, c1, c2, c3, c4, c5]) h hw hy h0 hs hn hb
  have : appX H (c0 :: c1 :: c2 :: c3 :: c4 :: c5 :: R) sz bytes v w = some (v', c0 :: c1 :: c2 :: c3 :: c4 :: c5 :: R') := h1
  rw [this]
  exact hK v' R' h2 h3 h4

theorem gO_app7 {H : List Lv} {c0 c1 c2 c3 c4 c5 c6 : AB} {R : Lv} {sz bytes : Nat} {v w : AV} {xs ys : List (List AV)} {K : AV → Lv → Prop} (h : Acc H 7 R sz v xs) (hw : elems H (c0 :: c1 :: c2 :: c3 :: c4 :: c5 :: c6 :: R) w = some ys) (hy : ∀ y ∈ ys, y.length = sz) (h0 : ys ≠ []) (hs : 0 < sz)
    (hn : xs.length + ys.length ≤ 9223372036854775807) (hb : (xs.length + ys.length) * bytes ≤ 140737488355328)
    (hK : ∀ v' R', Acc H 7 R' sz v' (xs ++ ys) → R.length ≤ R'.length → (∀ j, (∀ n, v ≠ .own H.length (j + 7) 0 n sz false) → j < R.length → R'[j]? = R[j]?) → K v' (c0 :: c1 :: c2 :: c3 :: c4 :: c5 :: c6 :: R')) : @gO (appX H (c0 :: c1 :: c2 :: c3 :: c4 :: c5 :: c6 :: R) sz bytes v w) ⟨K⟩ := by
  obtain ⟨v', R', h1, h2, h3, h4⟩ := Acc.app (P := [c0, c1, c2, c3, c4, c5, c6]) h hw hy h0 hs hn hb
  have : appX H (c0 :: c1 :: c2 :: c3 :: c4 :: c5 :: c6 :: R) sz bytes v w = some (v', c0 :: c1 :: c2 :: c3 :: c4 :: c5 :: c6 :: R') := h1
  rw [this]
  exact hK v' R' h2 h3 h4

theorem gO_app8 {H : List Lv} {c0 c1 c2 c3 c4 c5 c6 c7 : AB} {R : Lv} {sz bytes : Nat} {v w : AV} {xs ys : List (List AV)} {K : AV → Lv → Prop} (h : Acc H 8 R sz v xs) (hw : elems H (c0 :: c1 :: c2 :: c3 :: c4 :: c5 :: c6 :: c7 :: R) w = some ys) (hy : ∀ y ∈ ys, y.length = sz) (h0 : ys ≠ []) (hs : 0 < sz)
    (hn : xs.length + ys.length ≤ 9223372036854775807) (hb : (xs.length + ys.length) * bytes ≤ 140737488355328)
    (hK : ∀ v' R', Acc H 8 R' sz v' (xs ++ ys) → R.length ≤ R'.length → (∀ j, (∀ n, v ≠ .own H.length (j + 8) 0 n sz false) → j < R.length → R'[j]? = R[j]?) → K v' (c0 :: c1 :: c2 :: c3 :: c4 :: c5 :: c6 :: c7 :: R')) : @gO (appX H (c0 :: c1 :: c2 :: c3 :: c4 :: c5 :: c6 :: c7 :: R) sz bytes v w) ⟨K⟩ := by
  obtain ⟨v', R', h1, h2, h3, h4⟩ := Acc.app (P := [c0, c1, c2, c3, c4, c5, c6, c7]) h hw hy h0 hs hn hb
  have : appX H (c0 :: c1 :: c2 :: c3 :: c4 :: c5 :: c6 :: c7 :: R) sz bytes v w = some (v', c0 :: c1 :: c2 :: c3 :: c4 :: c5 :: c6 :: c7 :: R') := h1
  rw [this]
  exact hK v' R' h2 h3 h4

theorem lay_bool (b : Bool) : AV.lay (.bool b) = some [.bool b] := rfl
theorem lay_int (k : IntKind) (n : Int) : AV.lay (.int k n) = some [.int k n] := rfl
theorem lay_sl (m : SM) (xs : List (List AV)) : AV.lay (.sl m xs) = some [.sl m xs] := rfl
theorem lay_own (l b i n sz : Nat) (cl : Bool) : AV.lay (.own l b i n sz cl) = some [.own l b i n sz cl] := rfl
theorem lay_ptr (l b i : Nat) : AV.lay (.ptr l b i) = some [.ptr l b i] := rfl
theorem lay_fn (f : Nat) (cs : List AV) : AV.lay (.fn f cs) = some [.fn f cs] := rfl
theorem lay_mp (l b : Nat) : AV.lay (.mp l b) = some [.mp l b] := rfl
theorem lay_ro (b : Bool) (cs : List AV) : AV.lay (.ro b cs) = some [.ro b cs] := rfl
theorem lay_yl (l b : Nat) : AV.lay (.yl l b) = some [.yl l b] := rfl
theorem lay_nilp : AV.lay .nilp = some [.nilp] := rfl
theorem lay_nilf : AV.lay .nilf = some [.nilf] := rfl
theorem lay_nilS : AV.lay nilS = some [nilS] := rfl
theorem lay_agg (cs : List AV) : AV.lay (.agg cs) = some cs := rfl

theorem Acc.lay {H : List Lv} {k : Nat} {R : Lv} {sz : Nat} {v : AV} {xs : List (List AV)} (h : Acc H k R sz v xs) : v.lay = some [v] := by
  rcases h with ⟨rfl, _⟩ | ⟨b, rfl, _⟩ <;> rfl

theorem allM_id {α : Type} {f : α → Option α} : ∀ (l : List α), (∀ a ∈ l, f a = some a) → allM f l = some l
  | [], _ => rfl
  | a :: r, h => by
    simp only [allM, h a (by simp), allM_id r (fun b hb => h b (by simp [hb]))]

def nilM : SM := ⟨true, false, true⟩
def ownM : SM := ⟨false, false, false⟩

theorem lend_bool {H : List Lv} {L : Lv} {d : Nat} (b : Bool) : borrow H L d (.bool b) = some (.bool b) := by cases d <;> rfl
theorem lend_int {H : List Lv} {L : Lv} {d : Nat} (k : IntKind) (n : Int) : borrow H L d (.int k n) = some (.int k n) := by cases d <;> rfl
theorem lend_sl {H : List Lv} {L : Lv} {d : Nat} (m : SM) (xs : List (List AV)) : borrow H L d (.sl m xs) = some (.sl m xs) := by cases d <;> rfl
theorem lend_ptr {H : List Lv} {L : Lv} {d : Nat} (l b i : Nat) : borrow H L d (.ptr l b i) = some (.ptr l b i) := by cases d <;> rfl
theorem lend_fn {H : List Lv} {L : Lv} {d : Nat} (f : Nat) (cs : List AV) : borrow H L d (.fn f cs) = some (.fn f cs) := by cases d <;> rfl
theorem lend_mp {H : List Lv} {L : Lv} {d : Nat} (l b : Nat) : borrow H L d (.mp l b) = some (.mp l b) := by cases d <;> rfl
theorem lend_ro {H : List Lv} {L : Lv} {d : Nat} (b : Bool) (cs : List AV) : borrow H L d (.ro b cs) = some (.ro b cs) := by cases d <;> rfl
theorem lend_yl {H : List Lv} {L : Lv} {d : Nat} (l b : Nat) : borrow H L d (.yl l b) = some (.yl l b) := by cases d <;> rfl
theorem lend_nilp {H : List Lv} {L : Lv} {d : Nat}  : borrow H L d (.nilp) = some (.nilp) := by cases d <;> rfl
theorem lend_nilf {H : List Lv} {L : Lv} {d : Nat}  : borrow H L d (.nilf) = some (.nilf) := by cases d <;> rfl
theorem lend_un {H : List Lv} {L : Lv} {d : Nat}  : borrow H L d (.un) = some (.un) := by cases d <;> rfl
theorem lend_tup {H : List Lv} {L : Lv} {d : Nat} (cs : List AV) : borrow H L d (.tup cs) = some (.tup cs) := by cases d <;> rfl
theorem lend_nilS {H : List Lv} {L : Lv} {d : Nat} : borrow H L d nilS = some nilS := by cases d <;> rfl
theorem lend_agg {H : List Lv} {L : Lv} {d : Nat} (cs : List AV) : borrow H L (d + 1) (.agg cs) = (allM (borrow H L d) cs).map .agg := rfl

/-- What grew is lent. -/
theorem Acc.borrow {H : List Lv} {P R : Lv} {sz d : Nat} {v : AV} {xs : List (List AV)} (h : Acc H P.length R sz v xs) (hx : ∀ x ∈ xs, ∀ a ∈ x, borrow H (P ++ R) d a = some a) :
    borrow H (P ++ R) (d + 1) v = some (.sl (if xs.isEmpty then nilM else ⟨false, true, false⟩) xs) := by
  have he := h.elems
  rcases h with ⟨rfl, rfl⟩ | ⟨b, rfl, h1, h2⟩
  · rfl
  · simp only [Ev.borrow, he]
    rw [allM_id xs (fun x h => allM_id x (hx x h))]
    have : xs.isEmpty = false := by cases xs with
      | nil => exact absurd rfl h2.2
      | cons _ _ => rfl
    rw [this]
    rfl

/-- What grew is handed back. -/
theorem Acc.freeze {H : List Lv} {P R : Lv} {sz d : Nat} {v : AV} {xs : List (List AV)} (h : Acc H P.length R sz v xs) (hx : ∀ x ∈ xs, ∀ a ∈ x, freezeC H (P ++ R) d a = some a) :
    freeze H (P ++ R) (d + 1) v = some (.sl (if xs.isEmpty then nilM else ownM) xs) := by
  have he := h.elems
  rcases h with ⟨rfl, rfl⟩ | ⟨b, rfl, h1, h2⟩
  · rfl
  · simp only [Ev.freeze, Nat.lt_irrefl, if_false, he]
    rw [allM_id xs (fun x h => allM_id x (hx x h))]
    have : xs.isEmpty = false := by cases xs with
      | nil => exact absurd rfl h2.2
      | cons _ _ => rfl
    rw [this]
    rfl

theorem freezeC_int {H : List Lv} {L : Lv} {d : Nat} (k : IntKind) (n : Int) : freezeC H L d (.int k n) = some (.int k n) := by
  cases d <;> rfl
theorem freezeC_bool {H : List Lv} {L : Lv} {d : Nat} (b : Bool) : freezeC H L d (.bool b) = some (.bool b) := by
  cases d <;> rfl
theorem freezeC_sl {H : List Lv} {L : Lv} {d : Nat} (m : SM) (xs : List (List AV)) (h : m.b = false) : freezeC H L d (.sl m xs) = some (.sl m xs) := by
  cases d <;> simp [Ev.freezeC, freeC, h]

attribute [simp] evW_st evW_mset evW_app evW_copy evW_clear
theorem put_nil (cs : List AV) : put cs 0 [] = cs := by simp [put]
theorem put_cons (a v : AV) (cs vs : List AV) : put (a :: cs) 0 (v :: vs) = v :: put cs 0 vs := by
  simp only [put, List.take_zero, List.nil_append, List.length_cons, Nat.zero_add, List.drop_succ_cons, List.cons_append]
theorem put_succ (a : AV) (cs vs : List AV) (n : Nat) : put (a :: cs) (n + 1) vs = a :: put cs n vs := by
  simp only [put, List.take_succ_cons, List.cons_append, show n + 1 + vs.length = (n + vs.length) + 1 by omega, List.drop_succ_cons]

attribute [simp] gG_true gG_false gL_nil gL_cons gD_nil gD_cons gO_some gDS_some asB stepT stepF
attribute [simp] gC_skip gC_seq gC_cond gC_block gC_loop gC_reg gC_regD gC_exit gC_ret gThen_normal vThen_exit vThen_ret vBlock_normal vBlock_exit vBlock_ret vRound_normal vRound_exit vRound_ret vRet_normal vRet_ret vEnd_some want ev1 Ins.kd evR evA Od.ev lk dput lay_bool lay_int lay_sl lay_own lay_ptr lay_fn lay_mp lay_ro lay_yl lay_nilp lay_nilf lay_nilS lay_agg keep start allM rdC getB elems binV unV mxV mnV fill put_nil put_cons put_succ rep sliceV isNat setB one evRes cmpI plainEq eqV doCall_eq pcallB_some ne_yield lv_ne2 lv_lt2 lv_ne3 lv_lt3 yldQ rngQ
attribute [simp] mask floatM wslot isBar isMk isImp lend_bool lend_int lend_sl lend_ptr lend_fn lend_mp lend_ro lend_yl lend_nilp lend_nilf lend_un lend_tup lend_nilS lend_agg freeze freeV freezeC freeC depth oddKey oddVal findK keyEq copyV clearV chunk
end Go.Ev
