/- Regions whose order is the text's. -/
import Derived.Test.YtiplefdmpcjgcaaGreatEvStep
import Derived.Tactics
namespace Go.Ev
open Go Go.RowKit

inductive All2 {α β : Type} (R : α → β → Prop) : List α → List β → Prop
  | nil : All2 R [] []
  | cons {a : α} {b : β} {l : List α} {r : List β} : R a b → All2 R l r → All2 R (a :: l) (b :: r)

theorem all2_of {α β : Type} {R : α → β → Prop} : ∀ {l : List α} {r : List β}, r.length = l.length → (∀ (i : Nat) (a : α) (b : β), l[i]? = some a → r[i]? = some b → R a b) → All2 R l r
  | [], [], _, _ => .nil
  | [], b :: r, h, _ => by simp at h
  | a :: l, [], h, _ => by simp at h
  | a :: l, b :: r, h, k => .cons (k 0 a b rfl rfl) (all2_of (by simpa using h) (fun i x y ex ey => k (i + 1) x y (by simpa using ex) (by simpa using ey)))

section
variable {P : Program} {w : World} {O X : Nat → Prop} {μ : Mu} {H : List Lv} {L : Lv}

/-- An operation, and what it was turned to. -/
structure Comp1 (P : Program) (nt : Nat) (ops : Array Oper) (o : Oper) (i : I) : Prop where
  op : i.i = .bad ∨ compOp P o.op = some i.i
  g : compG ops o.guard = some i.g
  d : i.d = o.dst
  lt : ∀ t, o.dst = some t → t < nt

/-- An activation's state: room for all temporaries, nothing deferred. -/
def St (nt : Nat) (ds : List Deferred) (a : Act) : Prop := nt ≤ a.tmps.size ∧ a.defers = ds

theorem St.put {nt : Nat} {ds : List Deferred} {a : Act} (h : St nt ds a) (d : Option Tmp) (u : Value) : St nt ds (a.put d u) := by
  cases d with
  | none => exact h
  | some t => exact ⟨by simpa [Act.put] using h.1, h.2⟩

theorem SimT.ext {w' : World} {O' X' : Nat → Prop} {μ' : Mu} (hX : ∀ g, X g → O g) (h : Ext w O X μ w' O' X' μ') {E : Tm} {a : Act} (s : SimT w O X μ E a) : SimT w' O' X' μ' E a := fun t hn => (s t hn).ext hX h

theorem eval_put (a : Act) (d : Nat) (u : Value) (t : Nat) (hd : d < a.tmps.size) : (a.put (some d) u).eval (.tmp t) = if d = t then u else a.eval (.tmp t) := by
  simp only [Act.put, Act.eval]
  split
  · rename_i e
    subst e
    simp [Array.getD_eq_getD_getElem?, hd]
  · rename_i e
    simp [Array.getD_eq_getD_getElem?, Array.getElem?_setIfInBounds_ne e]

theorem SimT.put {E : Tm} {a : Act} (s : SimT w O X μ E a) {d : Option Nat} {v : AV} {u : Value} (hd : ∀ t, d = some t → t < a.tmps.size) (hv : v ≠ .un → Rep w O X μ v u) : SimT w O X μ (dput d v E) (a.put d u) := by
  intro t hn
  cases d with
  | none => exact s t hn
  | some t0 =>
    rw [eval_put a t0 u t (hd t0 rfl)]
    simp only [dput, lk] at hn ⊢
    split
    · rename_i e; rw [if_pos e] at hn; exact hv hn
    · rename_i e; rw [if_neg e] at hn; exact s t hn

theorem wanted_of {E : Tm} {a : Act} (hE : SimT w O X μ E a) {ops : Array Oper} {o : Oper} {g : Option (Nat × Bool)} (hc : compG ops o.guard = some g) {b : Bool} (hw : want g E = some b) : Region.wanted o (yielded ops a.tmps) = b := by
  unfold Region.wanted
  cases hg : o.guard with
  | none =>
    rw [hg] at hc
    simp only [compG, Option.some.injEq] at hc
    subst hc
    simpa [want] using hw
  | some p =>
    obtain ⟨j, wt⟩ := p
    rw [hg] at hc
    simp only [compG] at hc
    split at hc
    · rename_i t ht
      simp only [Option.some.injEq] at hc
      subst hc
      simp only [want] at hw
      simp only [yielded, ht, Option.bind_some]
      split at hw
      · rename_i c hl
        have hr := hE t (by rw [hl]; simp)
        rw [hl] at hr
        simp only [Option.some.injEq] at hw
        have he := asBool_rep hr rfl
        simp only [Act.eval, Array.getD_eq_getD_getElem?] at he
        cases hq : a.tmps[t]? with
        | none => rw [hq] at he; simp [undef] at he
        | some x =>
          rw [hq] at he
          simp only [Option.getD_some] at he
          subst he
          simpa using hw
      · rename_i hl
        have hr := hE t (by rw [hl]; simp)
        rw [hl] at hr
        simp only [Option.some.injEq] at hw
        simp only [Act.eval, Array.getD_eq_getD_getElem?] at hr
        subst hw
        cases hq : a.tmps[t]? with
        | none => simp
        | some x =>
          rw [hq] at hr
          simp only [Option.getD_some] at hr
          cases hr
          simp
      · cases hw
    · cases hc

theorem rep_undef : Rep w O X μ (.tup []) undef := .tup [] #[] rfl (fun i a u e => by simp at e)

/-- What a round is claimed to do, it does. -/
def SoundY (P : Program) (md : Nat → Md) (call : CallT) : Prop := ∀ (l b : Nat) (vs : List AV) (H : List Lv) (L : Lv) (v : AV) (L' : Lv), call yieldF (.yl l b :: vs) H L = some (v, L') →
  ∀ (w : World) (O X : Nat → Prop) (μ : Mu) (g : Nat) (vals : Array Value), Mem P md w O X μ H L → μ l b = some (g, 0) → Args w O X μ vs vals →
    ∃ f tmps asg bd, (Instr.yield g vals).run P w = .ok (.round g f tmps asg bd) w ∧ ∀ r n, RoundIn (rf r) n P g f tmps asg bd w fun e w' => ∃ u, e = .returned u ∧ ∃ O' X' μ', Ext w O X μ w' O' X' μ' ∧ Mem P md w' O' X' μ' H L' ∧ (v ≠ .un → Rep w' O' X' μ' v u)

/-- One instruction, in the text's order. -/
theorem step_sound {G : GP} {call : CallT} (hs : SoundC P G.md call) (hy : SoundY P G.md call) {r : Option Nat} {n : Nat} (m : Mem P G.md w O X μ H L) {E : Tm} {a : Act} (hE : SimT w O X μ E a) {o : Oper} {i : Ins} {v : AV} {L' : Lv} (hc : compOp P o.op = some i) (hv : ev1 G call H E L i = some (v, L'))
    {K : Act → World → Prop} {Q : Exit → Act → World → Prop} (hK : ∀ u w' O' X' μ', Ext w O X μ w' O' X' μ' → Mem P G.md w' O' X' μ' H L' → (v ≠ .un → Rep w' O' X' μ' v u) → K (a.put o.dst u) w') : o.wpIn (rf r) n P a w K Q := by
  have doc : ∀ {f : Nat} {as : List AV} {vals : Array Value}, doCall G call H L f as = some (v, L') → Args w O X μ as vals → (Enters P f → (execOp a.eval o).run P w = .ok (.enter f vals) w) → o.wpIn (rf r) n P a w K Q := by
    intro f as vals hd ha hrun
    unfold doCall at hd
    split at hd
    · simp only [Option.map_eq_some_iff, Prod.mk.injEq] at hd
      obtain ⟨r, hr, rfl, rfl⟩ := hd
      obtain ⟨h1, h2⟩ := pcall_sound hs m hr ha
      refine wp_enters hc (hrun h1) (h2.mono fun e w' he => ?_)
      obtain ⟨u, rfl, k1, k2, k3⟩ := he
      exact ⟨u, rfl, hK u w' O X μ k1 (m.stays k1 k2) k3⟩
    · split at hd
      · cases hd
      rename_i hy
      obtain ⟨h1, h2⟩ := hs _ _ _ _ _ _ hd hy
      refine wp_enters hc (hrun h1) ((h2 w O X μ vals m ha).mono fun e w' he => ?_)
      obtain ⟨u, rfl, O', X', μ', k1, k2, k3⟩ := he
      exact ⟨u, rfl, hK u w' O' X' μ' k1 k2 k3⟩
  have oth : (match i.kd with
      | .r => (evR H E L i).map fun v => (v, L)
      | .a => (evA H E i).map fun (b, p) => (p L.length, L ++ [b])
      | _ => evW H E L i) = some (v, L') → o.wpIn (rf r) n P a w K Q := by
    intro hv
    cases hk : i.kd with
    | r =>
      simp only [hk, Option.map_eq_some_iff, Prod.mk.injEq] at hv
      obtain ⟨r, hr, rfl, rfl⟩ := hv
      obtain ⟨u, h1, h2⟩ := simR m hE hc hk hr
      exact wp_value hc h1 (hK u w O X μ (Ext.refl ..) m h2)
    | a =>
      simp only [hk, Option.map_eq_some_iff, Prod.mk.injEq] at hv
      obtain ⟨⟨b, p⟩, hr, rfl, rfl⟩ := hv
      obtain ⟨u, w', O', X', μ', h1, h2, h3, h4, _⟩ := made m hE hc hr (L' := L ++ [b]) (m.dom L.length (Nat.le_refl _)) (fun j x ex hl => by
        rw [List.getElem?_append] at ex
        split at ex
        · rename_i hj; exact .inr ⟨by omega, ex⟩
        · rename_i hj
          have hj2 := (List.getElem?_eq_some_iff.1 ex).1
          simp at hj2
          have hj3 : j - L.length = 0 := by omega
          rw [hj3] at ex
          simp at ex
          exact .inl ⟨by omega, ex.symm⟩) (by simp) (by simp)
      exact wp_value hc h1 (hK u w' O' X' μ' h2 h3 (fun _ => h4))
    | _ =>
      simp only [hk] at hv
      have hkw : i.kd = .w := by
        cases i <;> first | (simp only [evW, reduceCtorEq] at hv; done) | rfl
      obtain ⟨nx, w', O', X', μ', h1, h2, h3, h4⟩ := simW m hE hc hkw hv
      rcases h2 with ⟨rfl, rfl⟩ | ⟨u, rfl, h5⟩
      · exact wp_skips hc h1 (hK undef w' O' X' μ' h3 h4 (fun hn => absurd rfl hn))
      · exact wp_value hc h1 (hK u w' O' X' μ' h3 h4 h5)
  cases i with
  | call f as =>
    obtain ⟨c, ho, hcal, has⟩ := comp_call hc
    simp only [ev1] at hv
    have := args_of hE has (cap := []) (vs := #[]) rfl (fun i x u e => by simp at e)
    rw [List.append_nil] at this
    exact doc hv this (fun he => run_call ho hcal rfl he w)
  | ccall y as =>
    obtain ⟨c, x, ho, hcal, hx, has⟩ := comp_ccall hc
    simp only [ev1] at hv
    split at hv
    · rename_i f cap hf
      obtain ⟨vs, h1, h2, h3⟩ := rep_fn hE hx hf
      exact doc hv (args_of hE has h2 h3) (fun he => run_call ho hcal h1 he w)
    · rename_i l b hl
      have hr := rep_od hE hx (rep_ne hl (by simp))
      rw [hl] at hr
      generalize hu : a.eval x = u at hr
      cases hr with
      | yl _ _ g hmu =>
        have hargs := args_of hE has (cap := []) (vs := #[]) rfl (fun i x u e => by simp at e)
        rw [List.append_nil, Array.append_empty] at hargs
        obtain ⟨f, tmps, asg, bd, k1, k2⟩ := hy l b _ H L v L' hv w O X μ g _ m hmu hargs
        refine wp_round hc ?_ ((k2 r (n - 1)).mono fun e w' he => ?_)
        · unfold execOp
          simp only [ho, resolve, hcal, hu, Deferred.ofValue, Sem.run_bind, Sem.run_pure, Result.andThen_ok, invoke, Array.empty_append]
          exact k1
        · obtain ⟨u, rfl, O', X', μ', j1, j2, j3⟩ := he
          exact ⟨u, rfl, hK u w' O' X' μ' j1 j2 j3⟩
    · cases hv
  | _ => exact oth hv

/-- Instructions, one behind the other. -/
theorem simL {G : GP} {call : CallT} (hs : SoundC P G.md call) (hy : SoundY P G.md call) {r : Option Nat} {n : Nat} {nt : Nat} {ds : List Deferred} {ops : Array Oper} {Q : Exit → Act → World → Prop} : ∀ {os : List Oper} {is : List I}, All2 (Comp1 P nt ops) os is → ∀ {w : World} {O X : Nat → Prop} {μ : Mu} {L : Lv} {E : Tm} {a : Act} {E' : Tm} {L' : Lv},
    evL G call H is E L = some (E', L') → Mem P G.md w O X μ H L → SimT w O X μ E a → St nt ds a →
    (∀ a' w' O' X' μ', Ext w O X μ w' O' X' μ' → Mem P G.md w' O' X' μ' H L' → SimT w' O' X' μ' E' a' → St nt ds a' → Q .normal a' w') → wpListIn (rf r) n P ops Q os a w := by
  intro os is hall
  induction hall with
  | nil =>
    intro w O X μ L E a E' L' h m hE ha hQ
    simp only [evL, Option.some.injEq, Prod.mk.injEq] at h
    obtain ⟨rfl, rfl⟩ := h
    exact hQ a w O X μ (Ext.refl ..) m hE ha
  | @cons o i os is hc _ ih =>
    intro w O X μ L E a E' L' h m hE ha hQ
    unfold evL at h
    have hlt : ∀ t, i.d = some t → t < a.tmps.size := fun t e => Nat.lt_of_lt_of_le (hc.lt t (hc.d ▸ e)) ha.1
    split at h
    · rename_i hw
      split at h
      · rename_i v L1 hv
        unfold wpListIn
        rw [wanted_of hE hc.g hw, if_pos rfl]
        have hop : compOp P o.op = some i.i := hc.op.resolve_left (fun e => by rw [e] at hv; cases hv)
        refine (step_sound hs hy m hE hop hv fun u w' O' X' μ' k1 k2 k3 => ?_)
        rw [← hc.d]
        exact ih h k2 ((hE.ext m.xo k1).put hlt k3) (ha.put _ _) (fun a' w2 O2 X2 μ2 j1 j2 j3 j4 => hQ a' w2 O2 X2 μ2 (k1.trans j1) j2 j3 j4)
      · cases h
    · rename_i hw
      unfold wpListIn
      rw [wanted_of hE hc.g hw, if_neg (by simp), ← hc.d]
      refine ⟨fun _ _ => trivial, ?_⟩
      exact ih h m (hE.put hlt (fun _ => rep_undef)) (ha.put _ _) hQ
    · cases h

theorem comp_all {nt : Nat} {ops : Array Oper} {is : List I} (h : allM (fun (o : Oper) => match compG ops o.guard with
    | some g => if (match o.dst with | some t => decide (t < nt) | none => true) then some (⟨o.dst, g, [], false, (compOp P o.op).getD .bad⟩ : I) else none
    | none => none) ops.toList = some is) : All2 (Comp1 P nt ops) ops.toList is := by
  obtain ⟨h1, h2⟩ := allM_spec h
  refine all2_of h1 (fun k o i ho hi => ?_)
  have := h2 k o i ho hi
  split at this
  · rename_i g hg
    have hj : (compOp P o.op).getD .bad = .bad ∨ compOp P o.op = some ((compOp P o.op).getD .bad) := by
      cases compOp P o.op with
      | none => exact .inl rfl
      | some i => exact .inr rfl
    cases hd : o.dst with
    | none =>
      simp only [hd, if_true, Option.some.injEq] at this
      subst this
      exact ⟨hj, hg, hd.symm, fun t e => by rw [hd] at e; cases e⟩
    | some t =>
      simp only [hd, decide_eq_true_eq] at this
      split at this
      · rename_i hlt
        simp only [Option.some.injEq] at this
        subst this
        exact ⟨hj, hg, hd.symm, fun t' e => by rw [hd] at e; cases e; exact hlt⟩
      · cases this
  · cases this

theorem all2_get {α β : Type} {R : α → β → Prop} : ∀ {l : List α} {r : List β}, All2 R l r → ∀ (i : Nat) (b : β), r[i]? = some b → ∃ a, l[i]? = some a ∧ R a b
  | _, _, .nil, i, b, e => by simp at e
  | _, _, .cons h _, 0, b, e => ⟨_, rfl, by simp only [List.getElem?_cons_zero, Option.some.injEq] at e; subst e; exact h⟩
  | _, _, .cons _ k, i + 1, b, e => by
    obtain ⟨a, h1, h2⟩ := all2_get k i b (by simpa using e)
    exact ⟨a, by simpa using h1, h2⟩

end
end Go.Ev
