/- One operation of a region. -/
import Derived.Test.YtiplefdmpcjgcaaGreatEvCall
import Derived.TacticsIn
import Derived.OrdersIn
import Derived.LoopNIn
import Derived.RangeFuncRecord
namespace Go.Ev
open Go Go.RowKit

section
variable {P : Program} {md : Nat → Md} {w : World} {O X : Nat → Prop} {μ : Mu} {H : List Lv} {L : Lv}

/-- A call enters the function's body. -/
def Enters (P : Program) (f : Nat) : Prop := ∃ fn : Func, P.funcs[f]? = some fn ∧ fn.body.isNone = false ∧ (fn.name == "runtime.NumGoroutine") = false

def Args (w : World) (O X : Nat → Prop) (μ : Mu) (as : List AV) (vals : Array Value) : Prop :=
  vals.size = as.length ∧ ∀ (i : Nat) (a : AV) (u : Value), as[i]? = some a → vals[i]? = some u → a ≠ .un → Rep w O X μ a u

/-- What a call is claimed to do, it does. -/
def SoundC (P : Program) (md : Nat → Md) (call : CallT) : Prop := ∀ (f : Nat) (as : List AV) (H : List Lv) (L : Lv) (v : AV) (L' : Lv), call f as H L = some (v, L') → f ≠ yieldF →
  Enters P f ∧ ∀ (w : World) (O X : Nat → Prop) (μ : Mu) (vals : Array Value), Mem P md w O X μ H L → Args w O X μ as vals →
    Calls P f vals w fun e w' => ∃ u, e = .returned u ∧ ∃ O' X' μ', Ext w O X μ w' O' X' μ' ∧ Mem P md w' O' X' μ' H L' ∧ (v ≠ .un → Rep w' O' X' μ' v u)

theorem BR.down {X1 : Nat → Prop} (hX : ∀ g, X1 g → X g) {ab : AB} {g o : Nat} (b : BR P md w O X μ ab g o) : BR P md w O X1 μ ab g o := by
  cases ab with
  | cells cs =>
    obtain ⟨arr, ty, h1, h2, h3⟩ := b
    exact ⟨arr, ty, h1, h2, fun i a e => let ⟨u, k1, k2, k3⟩ := h3 i a e; ⟨u, k1, k2, k3.down hX⟩⟩
  | map es =>
    obtain ⟨ents, clock, h1, h2, h3⟩ := b
    exact ⟨ents, clock, h1, h2, fun i k v e e1 e2 => let ⟨k1, k2⟩ := h3 i k v e e1 e2; ⟨k1.down hX, k2.down hX⟩⟩
  | loop ps T asg bd =>
    obtain ⟨h0, rec, h1, h2, h3, nt, h4, h5, h6, h7, h8, hp, h9⟩ := b
    exact ⟨h0, rec, h1, h2, h3, nt, h4, h5, h6, h7, h8, hp, fun t hn => (h9 t hn).down hX⟩
  | dead => trivial

theorem Mem.enter (m : Mem P md w O X μ H L) : Mem P md w O noX μ (L :: H) [] where
  xo _ h := h.elim
  ol := m.ol
  dom b _ := m.dom2 _ _ (by simp)
  dom2 l b h := m.dom2 l b (by simp at h; omega)
  cur b ab e := by simp at e
  inj b b' x x' g o o' e := by simp at e
  old l b ab hl e h := by
    have key : ∃ g o, μ l b = some (g, o) ∧ BR P md w O X μ ab g o := by
      refine m.at ?_ h
      unfold getB at e ⊢
      simp only [List.length_cons] at hl e
      rw [if_neg (by omega), if_pos (by omega)] at e
      by_cases e1 : l = H.length
      · subst e1
        rw [if_pos rfl]
        simpa using e
      · rw [if_neg e1, if_pos (by omega)]
        rw [show H.length + 1 - 1 - l = (H.length - 1 - l) + 1 by omega] at e
        simpa using e
    obtain ⟨g, o, h1, h2⟩ := key
    exact ⟨g, o, h1, fun k => k, h2.down (fun _ k => k.elim)⟩

theorem borrow_un {d : Nat} {v : AV} (h : borrow H L d .un = some v) : v = .un := by
  cases d <;> (simp only [borrow, Option.some.injEq] at h; exact h.symm)

/-- A pure call leaves its caller's memory as it is. -/
theorem pcall_sound {call : CallT} (hs : SoundC P md call) (m : Mem P md w O X μ H L) {f : Nat} {as : List AV} {v : AV} (h : pcall call H L f as = some v) {vals : Array Value} (ha : Args w O X μ as vals) :
    Enters P f ∧ Calls P f vals w fun e w' => ∃ u, e = .returned u ∧ Ext w O X μ w' O X μ ∧ (∀ g, g < w.heap.size → w'.heap[g]? = w.heap[g]?) ∧ (v ≠ .un → Rep w' O X μ v u) := by
  unfold pcall at h
  split at h
  · cases h
  rename_i hy
  split at h
  · rename_i bs hbs
    split at h
    · rename_i r M hr
      obtain ⟨h1, h2⟩ := hs _ _ _ _ _ _ hr hy
      have ha' : Args w O noX μ bs vals := by
        refine ⟨by rw [ha.1, allM_len hbs], fun i a u ea eu hn => ?_⟩
        obtain ⟨a', ea', hb⟩ := allM_get hbs ea
        have hn' : a' ≠ .un := by rintro rfl; exact hn (borrow_un hb)
        exact borrow_sound m depth a' a u (ha.2 i a' u ea' eu hn') hb
      refine ⟨h1, (h2 w O noX μ vals m.enter ha').mono fun e w' he => ?_⟩
      obtain ⟨u, rfl, O', X', μ', k1, k2, k3⟩ := he
      have hnew : ∀ g, X' g → ¬ O g := fun g hx ho => by
        have := m.ol g ho
        rcases k1.x' g hx with q | q
        · exact q
        · omega
      refine ⟨u, rfl, ⟨fun _ _ _ q => q, fun _ _ _ q q' => (by rw [q] at q'; cases q'), k1.os, k1.tape, k1.output, k1.size, fun g hg _ => k1.block g hg (fun q => q), k1.shape, fun _ q => q, fun _ q => .inl q, fun _ q => q, fun _ q => .inl q⟩, fun g hg => k1.block g hg (fun q => q), fun hn => ?_⟩
      exact freeze_sound k2 k1.o hnew k1.mu k1.mu' depth r v u k3 h hn
    · cases h
  · cases h

/-- Memory that nobody wrote. -/
theorem Mem.stays {w' : World} (m : Mem P md w O X μ H L) (h : Ext w O X μ w' O X μ) (hb : ∀ g, g < w.heap.size → w'.heap[g]? = w.heap[g]?) : Mem P md w' O X μ H L where
  xo := m.xo
  ol g hg := Nat.lt_of_lt_of_le (m.ol g hg) h.size
  dom := m.dom
  dom2 := m.dom2
  cur b ab e hl := by
    obtain ⟨g, o, h1, h2, h3⟩ := m.cur b ab e hl
    exact ⟨g, o, h1, h2, h3.ext m.xo h (hb g (h3.lt hl))⟩
  inj := m.inj
  old l b ab hlt e hl := by
    obtain ⟨g, o, h1, h2, h3⟩ := m.old l b ab hlt e hl
    exact ⟨g, o, h1, h2, h3.ext m.xo h (hb g (h3.lt hl))⟩

/-- All may be called; the frame is a round's, or none. -/
def rf (r : Option Nat) : Fence := { Fence.wide with round := r }

theorem calls_rf {r : Option Nat} {n : Nat} {f : Nat} {args : Array Value} {w : World} {R : Ending → World → Prop} (h : Calls P f args w R) : CallsIn (rf r) n P f args w R :=
  (callsIn_wide (n := n)).2 h

theorem rf_calls {n : Nat} {f : Nat} {args : Array Value} {w : World} {R : Ending → World → Prop} (h : CallsIn (rf none) n P f args w R) : Calls P f args w R :=
  (callsIn_wide (n := n)).1 h

theorem semAt_comp {o : Oper} {i : Ins} (h : compOp P o.op = some i) (r : Option Nat) (ρ : Operand → Value) : o.semAt r ρ = execOp ρ o := by
  cases r with
  | none => rfl
  | some l => exact Oper.semAt_some l ρ o (fun c e => by rw [e] at h; cases h)

section
variable {o : Oper} {i : Ins} {a : Act} {r : Option Nat} {n : Nat} {K : Act → World → Prop} {Q : Exit → Act → World → Prop}

theorem wp_value {w w' : World} {u : Value} (hc : compOp P o.op = some i) (h : (execOp a.eval o).run P w = .ok (.value u) w') (hK : K (a.put o.dst u) w') : o.wpIn (rf r) n P a w K Q := by
  refine ⟨fun _ _ => trivial, ?_⟩
  rw [semAt_comp hc, h]
  exact hK

theorem wp_skips {w w' : World} (hc : compOp P o.op = some i) (h : (execOp a.eval o).run P w = .ok .skip w') (hK : K (a.put o.dst undef) w') : o.wpIn (rf r) n P a w K Q := by
  refine ⟨fun _ _ => trivial, ?_⟩
  rw [semAt_comp hc, h]
  exact hK

theorem wp_enters {w : World} {f : Nat} {args : Array Value} (hc : compOp P o.op = some i) (h : (execOp a.eval o).run P w = .ok (.enter f args) w)
    (hK : Calls P f args w fun e w' => ∃ u, e = .returned u ∧ K (a.put o.dst u) w') : o.wpIn (rf r) n P a w K Q := by
  refine ⟨fun _ _ => trivial, ?_⟩
  rw [semAt_comp hc, h, Oper.uponIn_enter]
  refine ⟨fun e => by simp [rf, Fence.wide] at e, calls_rf (hK.mono fun e w' he => ?_)⟩
  obtain ⟨u, rfl, hk⟩ := he
  exact hk

theorem wp_round {w : World} {l f : Nat} {tmps : Array Value} {asg bd : Code} (hc : compOp P o.op = some i) (h : (execOp a.eval o).run P w = .ok (.round l f tmps asg bd) w)
    (hK : RoundIn (rf r) (n - 1) P l f tmps asg bd w fun e w' => ∃ u, e = .returned u ∧ K (a.put o.dst u) w') : o.wpIn (rf r) n P a w K Q := by
  refine ⟨fun _ _ => trivial, ?_⟩
  rw [semAt_comp hc, h, Oper.uponIn_round]
  refine ⟨fun e => by simp [rf, Fence.wide] at e, hK.mono fun e w' he => ?_⟩
  obtain ⟨u, rfl, hk⟩ := he
  exact hk

end

theorem run_callFunc {f : Nat} (h : Enters P f) (args : Array Value) (w : World) : (callFunc f args).run P w = .ok (.enter f args) w := by
  obtain ⟨fn, h1, h2, h3⟩ := h
  have hp : (program).run P w = .ok P w := rfl
  unfold callFunc
  simp only [Sem.run_bind, hp, Result.andThen_ok, h1, h3, h2, Bool.false_eq_true, if_false, Sem.run_pure]

/-- What a call's operation comes to. -/
theorem run_call {a : Act} {o : Oper} {c : Call} (ho : o.op = .call c) {x : Operand} (hc : c.callee = .value x) {f : Nat} {cap : Array Value} (hx : a.eval x = .func (.func f) #[] cap) (he : Enters P f) (w : World) :
    (execOp a.eval o).run P w = .ok (.enter f ((c.args.map a.eval) ++ cap)) w := by
  unfold execOp
  simp only [ho, resolve, hc, hx, Deferred.ofValue, Sem.run_bind, Sem.run_pure, Result.andThen_ok, invoke, Array.empty_append]
  exact run_callFunc he _ w

/-- Which call an instruction is. -/
theorem comp_call {op : Op} {f : Nat} {as : List Od} (h : compOp P op = some (.call f as)) : ∃ c : Call, op = .call c ∧ c.callee = .value (.func f) ∧ allM compOd c.args.toList = some as := by
  have hk := comp_kd h
  cases op with
  | call c =>
    refine ⟨c, rfl, ?_⟩
    simp only [compOp] at h
    split at h
    · rename_i xs hxs
      split at h
      · rename_i g hcal
        simp only [Option.some.injEq, Ins.call.injEq] at h
        obtain ⟨rfl, rfl⟩ := h
        exact ⟨hcal, hxs⟩
      · simp only [Option.map_eq_some_iff, reduceCtorEq, and_false, exists_false] at h
      · rename_i b hcal
        exfalso
        simp only [opKd, hcal, Ins.kd] at hk
        cases b <;> cases hk
      · cases h
    · cases h
  | _ => simp only [opKd, Ins.kd, reduceCtorEq] at hk

theorem comp_ccall {op : Op} {y : Od} {as : List Od} (h : compOp P op = some (.ccall y as)) : ∃ (c : Call) (x : Operand), op = .call c ∧ c.callee = .value x ∧ compOd x = some y ∧ allM compOd c.args.toList = some as := by
  have hk := comp_kd h
  cases op with
  | call c =>
    simp only [compOp] at h
    split at h
    · rename_i xs hxs
      split at h
      · simp only [Option.some.injEq, reduceCtorEq] at h
      · rename_i x hx hcal
        simp only [Option.map_eq_some_iff, Ins.ccall.injEq] at h
        obtain ⟨z, hz, rfl, rfl⟩ := h
        exact ⟨c, x, rfl, hcal, hz, hxs⟩
      · rename_i b hcal
        exfalso
        simp only [opKd, hcal, Ins.kd] at hk
        cases b <;> cases hk
      · cases h
    · cases h
  | _ => simp only [opKd, Ins.kd, reduceCtorEq] at hk

theorem args_of {E : Tm} {a : Act} (hE : SimT w O X μ E a) {xs : Array Operand} {ys : List Od} (h : allM compOd xs.toList = some ys) {cap : List AV} {vs : Array Value} (hc : vs.size = cap.length)
    (hr : ∀ (i : Nat) (x : AV) (u : Value), cap[i]? = some x → vs[i]? = some u → x ≠ .un → Rep w O X μ x u) : Args w O X μ (ys.map (Od.ev E) ++ cap) (xs.map a.eval ++ vs) := by
  obtain ⟨h1, h2⟩ := rep_ods hE h
  have hlen : (xs.map a.eval).size = (ys.map (Od.ev E)).length := by simpa using h1.symm
  refine ⟨by simp only [Array.size_append, List.length_append, hlen, hc], fun i x u ex eu hn => ?_⟩
  by_cases hi : i < (ys.map (Od.ev E)).length
  · rw [List.getElem?_append_left hi] at ex
    rw [Array.getElem?_append_left (by rw [hlen]; exact hi)] at eu
    exact h2 i x u ex (by simpa using eu) hn
  · rw [List.getElem?_append_right (by omega)] at ex
    rw [Array.getElem?_append_right (by rw [hlen]; omega), hlen] at eu
    exact hr _ x u ex eu hn

/-- A function that is called by a value. -/
theorem rep_fn {a : Act} {E : Tm} (hE : SimT w O X μ E a) {x : Operand} {y : Od} (hx : compOd x = some y) {f : Nat} {cap : List AV} (h : y.ev E = .fn f cap) :
    ∃ vs, a.eval x = .func (.func f) #[] vs ∧ vs.size = cap.length ∧ ∀ (i : Nat) (x : AV) (u : Value), cap[i]? = some x → vs[i]? = some u → x ≠ .un → Rep w O X μ x u := by
  have hr := rep_od hE hx (rep_ne h (by simp))
  rw [h] at hr
  generalize a.eval x = u at hr
  cases hr with
  | fn _ _ vs h1 h2 => exact ⟨vs, rfl, h1, h2⟩

/-- What a maker does, in a level's last slot. -/
theorem made (m : Mem P md w O X μ H L) {E : Tm} {a : Act} (hE : SimT w O X μ E a) {o : Oper} {i : Ins} {ab : AB} {p : Nat → AV} (hc : compOp P o.op = some i) (hv : evA H E i = some (ab, p)) {b : Nat} {L' : Lv} (hm : μ H.length b = none)
    (hL : ∀ (i : Nat) (x : AB), L'[i]? = some x → x.live → i = b ∧ x = ab ∨ i ≠ b ∧ L[i]? = some x) (hlen : L.length ≤ L'.length) (hb : b < L'.length) :
    ∃ u w' O' X' μ', (execOp a.eval o).run P w = .ok (.value u) w' ∧ Ext w O X μ w' O' X' μ' ∧ Mem P md w' O' X' μ' H L' ∧ Rep w' O' X' μ' (p b) u ∧ (∀ l c, ¬ (l = H.length ∧ c = b) → μ' l c = μ l c) := by
  obtain ⟨ob, u, h1, h2, h3⟩ := simA m hE hc hv
  obtain ⟨k1, k2⟩ := h3 b hm
  exact ⟨u, _, _, _, _, h1, ext_alloc ob hm, m.alloc hm hL hlen hb k1, k2, fun l c hne => by unfold addMu; rw [if_neg hne]⟩

end
end Go.Ev
