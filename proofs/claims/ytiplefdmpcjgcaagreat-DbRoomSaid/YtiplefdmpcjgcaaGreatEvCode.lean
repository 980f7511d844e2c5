/- Code, and calls: what the evaluator says, the machine does. -/
import Derived.Test.YtiplefdmpcjgcaaGreatEvYield
namespace Go.Ev
open Go Go.RowKit

def exitOf : Ex → Exit
  | .normal => .normal
  | .exit n => .exit n
  | .ret => .ret

section
variable {P : Program} {w : World} {O X : Nat → Prop} {μ : Mu} {H : List Lv} {L : Lv}

theorem lk_keep : ∀ (T E : Tm) (t : Nat), lk (keep T E) t ≠ .un → lk (keep T E) t = lk E t
  | [], E, t, h => absurd rfl h
  | (a, v) :: T, E, t, h => by
    have hk : keep ((a, v) :: T) E = (a, lk E a) :: keep T E := rfl
    rw [hk] at h ⊢
    simp only [lk] at h ⊢
    split
    · rename_i e; rw [e]
    · rename_i e; rw [if_neg e] at h; exact lk_keep T E t h

theorem SimT.keep {T E : Tm} {a : Act} (s : SimT w O X μ E a) : SimT w O X μ (keep T E) a := fun t hn => by
  have := lk_keep T E t hn
  rw [this] at hn ⊢
  exact s t hn

theorem simReg (hm : P.follows .mixedOrders = true) {G : GP} {call : CallT} (hs : SoundC P G.md call) (hy : SoundY P G.md call) {r : Option Nat} {n : Nat} {nt : Nat} {ds : List Deferred} {ops : Array Oper} {dr : Bool} {is : List I} (hc : compReg P G.md nt ops dr = some is) {id : Nat} {Q : Exit → Act → World → Prop} {T T' : Tm} {L' : Lv} {a : Act}
    (h : evReg G call H dr is T L = some (T', L')) (m : Mem P G.md w O X μ H L) (hE : SimT w O X μ T a) (ha : St nt ds a)
    (hQ : ∀ a' w' O' X' μ', Ext w O X μ w' O' X' μ' → Mem P G.md w' O' X' μ' H L' → SimT w' O' X' μ' T' a' → St nt ds a' → Q .normal a' w') : (Code.region id ops dr).wpIn (rf r) n P Q a w := by
  cases dr with
  | false =>
    simp only [evReg, Bool.false_eq_true, if_false, Option.map_eq_some_iff, Prod.mk.injEq] at h
    obtain ⟨⟨E', L1⟩, h1, rfl, rfl⟩ := h
    unfold compReg at hc
    split at hc
    · rename_i js hjs
      simp only [Bool.false_eq_true, if_false, Option.some.injEq] at hc
      subst hc
      exact wpIn_region_list (simL hs hy (comp_all hjs) h1 m hE ha (fun a' w' O' X' μ' k1 k2 k3 k4 => hQ a' w' O' X' μ' k1 k2 k3.keep k4))
    · cases hc
  | true =>
    simp only [evReg, if_true, Option.map_eq_some_iff, Prod.mk.injEq] at h
    obtain ⟨σ, h1, rfl, rfl⟩ := h
    exact simD hm hs hc h1 m hE ha (fun a' w' O' X' μ' k1 k2 k3 k4 => hQ a' w' O' X' μ' k1 k2 k3.keep k4)

/-- The marks of loops over functions, among the deferred calls. -/
def Marks (w : World) (O : Nat → Prop) (b : Nat) (ds : List Deferred) : Prop :=
  b ≤ w.heap.size ∧ (∀ d ∈ ds, ∃ D, d.target = .collected D ∧ b ≤ D ∧ ¬ O D ∧ w.heap[D]? = some (.deferred (some []))) ∧ ds.Pairwise fun d e => ∀ D, d.target = .collected D → e.target ≠ .collected D

theorem Marks.ext {w' : World} {O' X' : Nat → Prop} {μ' : Mu} {b : Nat} {ds : List Deferred} (hX : ∀ g, X g → O g) (h : Ext w O X μ w' O' X' μ') (k : Marks w O b ds) : Marks w' O' b ds := by
  refine ⟨Nat.le_trans k.1 h.size, fun d hd => ?_, k.2.2⟩
  obtain ⟨D, h1, h2, h3, h4⟩ := k.2.1 d hd
  have hlt := (Array.getElem?_eq_some_iff.1 h4).1
  refine ⟨D, h1, h2, fun q => (h.o' D q).elim h3 (fun q => by omega), ?_⟩
  rw [h.block D hlt (fun q => h3 (hX D q))]
  exact h4

/-- What a loop is claimed to do, it does, in so many rounds. -/
def SoundL (P : Program) (md : Nat → Md) (n : Nat) (loop : LoopT) : Prop :=
  ∀ (nt : Nat) (k : Code) (c : C), compC P md nt k = some c → ∀ (H : List Lv) (T : Tm) (L : Lv) (e : Ex) (T' : Tm) (L' : Lv), loop c H T L = some (e, T', L') →
    ∀ (r : Option Nat) (n0 : Nat), r = none ∨ noR c = true → ∀ (w : World) (O X : Nat → Prop) (μ : Mu) (a : Act) (b : Nat) (ds : List Deferred), Mem P md w O X μ H L → SimT w O X μ T a → St nt ds a → Marks w O b ds → ∀ Q : Exit → Act → World → Prop,
      (∀ a' w' O' X' μ' ds', Ext w O X μ w' O' X' μ' → Mem P md w' O' X' μ' H L' → SimT w' O' X' μ' T' a' → St nt ds' a' → Marks w' O' b ds' → Q (exitOf e) a' w') → Code.roundsIn (rf r) n0 P k Q n a w

theorem simC (hm : P.follows .mixedOrders = true) {G : GP} {call : CallT} {loop : LoopT} {n : Nat} (hs : SoundC P G.md call) (hy : SoundY P G.md call) (hl : SoundL P G.md n loop) {nt : Nat} {r : Option Nat} {n0 b : Nat} : ∀ (k : Code) (c : C), compC P G.md nt k = some c → r = none ∨ noR c = true → ∀ {w : World} {O X : Nat → Prop} {μ : Mu} {T : Tm} {L : Lv} {a : Act} {e : Ex} {T' : Tm} {L' : Lv} {ds : List Deferred} {Q : Exit → Act → World → Prop},
    evC G call loop H c T L = some (e, T', L') → Mem P G.md w O X μ H L → SimT w O X μ T a → St nt ds a → Marks w O b ds →
    (∀ a' w' O' X' μ' ds', Ext w O X μ w' O' X' μ' → Mem P G.md w' O' X' μ' H L' → SimT w' O' X' μ' T' a' → St nt ds' a' → Marks w' O' b ds' → Q (exitOf e) a' w') → k.wpIn (rf r) n0 P Q a w := by
  intro k
  induction k with
  | skip =>
    intro c hc hr w O X μ T L a e T' L' ds Q h m hE ha hk hQ
    simp only [compC, Option.some.injEq] at hc
    subst hc
    simp only [evC, Option.some.injEq, Prod.mk.injEq] at h
    obtain ⟨rfl, rfl, rfl⟩ := h
    exact wpIn_skip (hQ a w O X μ ds (Ext.refl ..) m hE ha hk)
  | region id ops dr =>
    intro c hc hr w O X μ T L a e T' L' ds Q h m hE ha hk hQ
    simp only [compC] at hc
    split at hc
    · rename_i is his
      simp only [Option.some.injEq] at hc
      subst hc
      simp only [evC, Option.map_eq_some_iff, Prod.mk.injEq] at h
      obtain ⟨⟨T1, L1⟩, h1, rfl, rfl, rfl⟩ := h
      exact simReg hm hs hy his h1 m hE ha (fun a' w' O' X' μ' k1 k2 k3 k4 => hQ a' w' O' X' μ' ds k1 k2 k3 k4 (hk.ext m.xo k1))
    · simp only [Option.some.injEq] at hc
      subst hc
      cases h
  | seq x y ihx ihy =>
    intro c hc hr w O X μ T L a e T' L' ds Q h m hE ha hk hQ
    simp only [compC] at hc
    split at hc
    · rename_i cx cy hx hcy
      simp only [Option.some.injEq] at hc
      subst hc
      simp only [evC] at h
      have hr : (r = none ∨ noR cx = true) ∧ (r = none ∨ noR cy = true) := by
        simp only [noR, Bool.and_eq_true] at hr
        exact ⟨hr.imp id (·.1), hr.imp id (·.2)⟩
      refine wpIn_seq ?_
      split at h
      · rename_i T1 L1 h1
        refine ihx cx hx hr.1 h1 m hE ha hk (fun a1 w1 O1 X1 μ1 ds1 k1 k2 k3 k4 k5 => ?_)
        exact ihy cy hcy hr.2 h k2 k3 k4 k5 (fun a' w' O' X' μ' ds' j1 j2 j3 j4 j5 => hQ a' w' O' X' μ' ds' (k1.trans j1) j2 j3 j4 j5)
      · rename_i i T1 L1 h1
        simp only [Option.some.injEq, Prod.mk.injEq] at h
        obtain ⟨rfl, rfl, rfl⟩ := h
        exact ihx cx hx hr.1 h1 m hE ha hk hQ
      · rename_i T1 L1 h1
        simp only [Option.some.injEq, Prod.mk.injEq] at h
        obtain ⟨rfl, rfl, rfl⟩ := h
        exact ihx cx hx hr.1 h1 m hE ha hk hQ
      · cases h
    · cases hc
  | cond x t f iht ihf =>
    intro c hc hr w O X μ T L a e T' L' ds Q h m hE ha hk hQ
    simp only [compC] at hc
    split at hc
    · rename_i cx ct cf hx ht hf
      simp only [Option.some.injEq] at hc
      subst hc
      simp only [evC] at h
      have hr : (r = none ∨ noR ct = true) ∧ (r = none ∨ noR cf = true) := by
        simp only [noR, Bool.and_eq_true] at hr
        exact ⟨hr.imp id (·.1), hr.imp id (·.2)⟩
      split at h
      · rename_i b hb
        have hv := asBool_rep (rep_od hE hx (rep_ne hb (by simp))) hb
        refine wpIn_cond hv ?_
        cases b with
        | true => simp only [if_true] at h ⊢; exact iht ct ht hr.1 h m hE ha hk hQ
        | false => simp only [Bool.false_eq_true, if_false] at h ⊢; exact ihf cf hf hr.2 h m hE ha hk hQ
      · cases h
    · simp only [Option.some.injEq] at hc
      subst hc
      cases h
  | block id bd ih =>
    intro c hc hr w O X μ T L a e T' L' ds Q h m hE ha hk hQ
    simp only [compC, Option.map_eq_some_iff] at hc
    obtain ⟨cb, hb, rfl⟩ := hc
    simp only [evC] at h
    refine wpIn_block ?_
    split at h
    · rename_i i T1 L1 h1
      simp only [Option.some.injEq, Prod.mk.injEq] at h
      obtain ⟨rfl, rfl, rfl⟩ := h
      refine ih cb hb hr h1 m hE ha hk (fun a' w' O' X' μ' ds' k1 k2 k3 k4 k5 => ?_)
      have := hQ a' w' O' X' μ' ds' k1 k2 k3 k4 k5
      simp only [exitOf, Exit.inBlock]
      split
      · rename_i hid; rw [if_pos hid] at this; exact this
      · rename_i hid; rw [if_neg hid] at this; exact this
    · rename_i T1 L1 h1
      simp only [Option.some.injEq, Prod.mk.injEq] at h
      obtain ⟨rfl, rfl, rfl⟩ := h
      exact ih cb hb hr h1 m hE ha hk hQ
    · rename_i T1 L1 h1
      simp only [Option.some.injEq, Prod.mk.injEq] at h
      obtain ⟨rfl, rfl, rfl⟩ := h
      exact ih cb hb hr h1 m hE ha hk hQ
    · cases h
  | loop bd ih =>
    intro c hc hr w O X μ T L a e T' L' ds Q h m hE ha hk hQ
    simp only [compC, Option.map_eq_some_iff] at hc
    obtain ⟨cb, hb, rfl⟩ := hc
    simp only [evC] at h
    exact wpIn_loop_rounds n (hl nt bd cb hb H T L e T' L' h r n0 hr w O X μ a b ds m hE ha hk Q hQ)
  | exit id =>
    intro c hc hr w O X μ T L a e T' L' ds Q h m hE ha hk hQ
    simp only [compC, Option.some.injEq] at hc
    subst hc
    simp only [evC, Option.some.injEq, Prod.mk.injEq] at h
    obtain ⟨rfl, rfl, rfl⟩ := h
    exact wpIn_exit (hQ a w O X μ ds (Ext.refl ..) m hE ha hk)
  | ret =>
    intro c hc hr w O X μ T L a e T' L' ds Q h m hE ha hk hQ
    simp only [compC, Option.some.injEq] at hc
    subst hc
    simp only [evC, Option.some.injEq, Prod.mk.injEq] at h
    obtain ⟨rfl, rfl, rfl⟩ := h
    exact wpIn_ret (hQ a w O X μ ds (Ext.refl ..) m hE ha hk)
  | label l =>
    intro c hc hr w O X μ T L a e T' L' ds Q h m hE ha hk hQ
    simp only [compC, Option.some.injEq] at hc
    subst hc
    simp only [evC, Option.some.injEq, Prod.mk.injEq] at h
    obtain ⟨rfl, rfl, rfl⟩ := h
    exact wpIn_label (hQ a w O X μ ds (Ext.refl ..) m hE ha hk)
  | rangeFunc gf ps asg bd _ _ =>
    intro c hc hr w O X μ T L a e T' L' ds Q h m hE ha hk hQ
    simp only [compC] at hc
    split at hc
    · rename_i x ca cb hx hca hcb
      split at hc
      · rename_i hno
        simp only [Option.some.injEq] at hc
        subst hc
        have hrn : r = none := hr.resolve_right (by simp [noR])
        subst hrn
        simp only [Bool.and_eq_true, List.all_eq_true, decide_eq_true_eq] at hno
        simp only [evC] at h
        split at h
        · rename_i f cap hf
          split at h
          · cases h
          rename_i hyf
          split at h
          · rename_i v0 L1 hcall
            split at h
            · rename_i ps2 T2 a2 b2 hb2
              simp only [Option.some.injEq, Prod.mk.injEq] at h
              obtain ⟨rfl, rfl, rfl⟩ := h
              obtain ⟨vs, g1, g2, g3⟩ := rep_fn hE hx hf
              obtain ⟨hen, hsc⟩ := hs _ _ _ _ _ _ hcall hyf
              have eA : Ext w O X μ (w.alloc (.deferred (some []))) O X μ := ext_free _
              have mA : Mem P G.md (w.alloc (.deferred (some []))) O X μ H L := m.stays eA (fun g hg => heap_alloc_old w _ hg)
              have zA : (w.alloc (.deferred (some []))).heap.size = w.heap.size + 1 := by simp
              have dA : (w.alloc (.deferred (some []))).heap[w.heap.size]? = some (.deferred (some [])) := heap_alloc_new w _
              have kA := hk.ext m.xo eA
              have sA := hE.ext m.xo eA
              generalize hwA : w.alloc (.deferred (some [])) = wA at *
              refine wpIn_rangeFunc (fun fn _ => ?_)
              obtain ⟨rec, hrec⟩ : ∃ rec : Loop, rec = { state := .ready, pending := none, fn := fn, tmps := a.tmps, params := ps, assign := asg, body := bd, defers := w.heap.size } := ⟨_, rfl⟩
              have hm0 := mA.dom L.length (Nat.le_refl _)
              have eB := ext_alloc (w := wA) (O := O) (X := X) (.loop rec) hm0
              have sB := sA.ext mA.xo eB
              have mB : Mem P G.md (wA.alloc (.loop rec)) (addP O wA.heap.size) (addP X wA.heap.size) (addMu μ H.length L.length (wA.heap.size, 0)) H (L ++ [.loop ps.toList T ca cb]) := by
                refine mA.alloc hm0 (ab := .loop ps.toList T ca cb) (fun j y ey hl => ?_) (by simp) (by simp) ?_
                · rw [List.getElem?_append] at ey
                  split at ey
                  · rename_i hj; exact .inr ⟨by omega, ey⟩
                  · rename_i hj
                    have hj2 := (List.getElem?_eq_some_iff.1 ey).1
                    simp at hj2
                    have hj3 : j - L.length = 0 := by omega
                    rw [hj3] at ey
                    simp at ey
                    exact .inl ⟨by omega, ey.symm⟩
                · refine ⟨rfl, rec, heap_alloc_new wA _, by rw [hrec], by rw [hrec], nt, by rw [hrec]; exact hca, by rw [hrec]; exact hcb, by rw [hrec]; exact ha.1, hno.2, by simp [hno.1], by rw [hrec], fun t hn => ?_⟩
                  have h9 := sB t hn
                  have htm : rec.tmps = a.tmps := by rw [hrec]
                  rw [htm]
                  exact h9
              have hargs : Args (wA.alloc (.loop rec)) (addP O wA.heap.size) (addP X wA.heap.size) (addMu μ H.length L.length (wA.heap.size, 0)) (.yl H.length L.length :: cap) (#[.func (.yield wA.heap.size) #[] #[]] ++ vs) := by
                refine ⟨by simp [g2]; omega, fun i y u ey eu hn => ?_⟩
                cases i with
                | zero =>
                  rw [Array.getElem?_append_left (by simp)] at eu
                  simp at ey eu
                  subst ey eu
                  exact .yl _ _ _ (addMu_same _ _ _ _)
                | succ i =>
                  rw [Array.getElem?_append_right (by simp)] at eu
                  exact ((g3 i y u (by simpa using ey) (by simpa using eu) hn).ext m.xo eA).ext mA.xo eB
              refine ⟨wA.heap.size, [{ target := .collected w.heap.size, args := #[] }], wA.alloc (.loop rec), { target := .fn (.func f) vs, args := #[.func (.yield wA.heap.size) #[] #[]] }, wA.alloc (.loop rec), f,
                #[.func (.yield wA.heap.size) #[] #[]] ++ vs, wA.alloc (.loop rec), ?_, ?_, fun _ _ => trivial, ?_, fun e => by simp [rf, Fence.wide] at e, ?_⟩
              · have := run_enterLoop_outer (P := P) (w := w) fn a.tmps ps asg bd
                rw [hwA, ← hrec] at this
                rw [zA]
                exact this
              · simp only [resolve, g1]
                simp [Deferred.ofValue, Act.eval]
              · simp only [invoke]
                exact run_callFunc hen _ _
              · refine calls_rf ((hsc _ _ _ _ _ mB hargs).mono fun e w' he => ?_)
                obtain ⟨u, rfl, O1, X1, μ1, k1, k2, k3⟩ := he
                obtain ⟨g', o', q1, q2, q3⟩ := k2.cur L.length _ hb2 trivial
                have q4 := k1.mu H.length L.length (wA.heap.size, 0) (addMu_same _ _ _ _)
                rw [q1] at q4
                simp only [Option.some.injEq, Prod.mk.injEq] at q4
                obtain ⟨rfl, rfl⟩ := q4
                obtain ⟨_, rec', r1, r2, _, _, _, _, _, _, _, r8, _⟩ := q3
                refine ⟨none, w'.putObj wA.heap.size (.loop { rec' with state := .exhausted }), by rw [← r8]; exact run_endLoop r1 (by rw [r2]; simp), ?_⟩
                have eC : Ext w' O1 X1 μ1 (w'.putObj wA.heap.size (.loop { rec' with state := .exhausted })) O1 X1 μ1 := ext_putLoop r1 _ q2
                have eT := (eA.trans eB).trans (k1.trans eC)
                have dB : (wA.alloc (.loop rec)).heap[w.heap.size]? = some (.deferred (some [])) := (heap_alloc_old wA _ (by omega)).trans dA
                have nO : ¬ addP O wA.heap.size w.heap.size := fun q => q.elim (fun q => by have := m.ol _ q; omega) (fun q => by omega)
                refine hQ { a with defers := { target := .collected w.heap.size, args := #[] } :: ds } _ O1 X1 μ1 ({ target := .collected w.heap.size, args := #[] } :: ds) eT ?_ (hE.ext m.xo eT) ⟨ha.1, rfl⟩ ?_ |> fun hq => by
                  have : ({ a with defers := [{ target := .collected w.heap.size, args := #[] }] ++ a.defers } : Act) = { a with defers := { target := .collected w.heap.size, args := #[] } :: ds } := by rw [ha.2]; rfl
                  rw [this]
                  exact hq
                · exact k2.set hb2 trivial q1 eC (by simp) (fun k hk => World.putObj_heap_other hk) trivial
                · have base := hk.ext m.xo eT
                  refine ⟨base.1, fun d hd => ?_, List.pairwise_cons.2 ⟨fun d hd D hD => ?_, base.2.2⟩⟩
                  · simp only [List.mem_cons] at hd
                    rcases hd with rfl | hd
                    · refine ⟨w.heap.size, rfl, hk.1, fun q => (k1.o' _ q).elim nO (fun q => by simp at q; omega), ?_⟩
                      rw [World.putObj_heap_other (by omega), k1.block w.heap.size (by simp; omega) (fun q => nO (q.imp (m.xo _) id))]
                      exact dB
                    · exact base.2.1 d hd
                  · simp only [Target.collected.injEq] at hD
                    subst hD
                    intro q
                    obtain ⟨D2, f1, _, _, f4⟩ := hk.2.1 d hd
                    rw [q] at f1
                    simp only [Target.collected.injEq] at f1
                    subst f1
                    have := (Array.getElem?_eq_some_iff.1 f4).1
                    omega
            · cases h
          · cases h
        · cases h
      · simp only [Option.some.injEq] at hc
        subst hc
        cases h
    · simp only [Option.some.injEq] at hc
      subst hc
      cases h
  | scope b =>
    intro c hc hr w O X μ T L a e T' L' ds Q h
    simp only [compC, Option.some.injEq] at hc
    subst hc
    cases h
  | goto l =>
    intro c hc hr w O X μ T L a e T' L' ds Q h
    simp only [compC, Option.some.injEq] at hc
    subst hc
    cases h
  | refuse s =>
    intro c hc hr w O X μ T L a e T' L' ds Q h
    simp only [compC, Option.some.injEq] at hc
    subst hc
    cases h

def resOne (tmps : Array Value) : ResultVar → Sem Value
  | .tmp t => pure (tmps.getD t undef)
  | .cell a t => do loadVar t (← asAddr (tmps.getD a undef))

/-- What a function's results are. -/
theorem run_res {md : Nat → Md} (m : Mem P md w O X μ H L) {T : Tm} {tmps : Array Value} {ds : List Deferred} (hE : SimT w O X μ T ⟨tmps, ds⟩) : ∀ (rs : List ResultVar) (qs : List RV) (vs : List AV), allM (compRes P) rs = some qs → evRes H T L qs = some vs →
    ∃ us : List Value, (rs.mapM (m := Sem) (resOne tmps)).run P w = .ok us w ∧ us.length = vs.length ∧ ∀ (i : Nat) (v : AV) (u : Value), vs[i]? = some v → us[i]? = some u → v ≠ .un → Rep w O X μ v u
  | [], qs, vs, h, he => by
    simp only [allM, Option.some.injEq] at h
    subst h
    simp only [evRes, Option.some.injEq] at he
    subst he
    exact ⟨[], by simp, rfl, fun i v u e => by simp at e⟩
  | r :: rs, qs, vs, h, he => by
    simp only [allM] at h
    split at h
    · rename_i q qs' hq hqs
      simp only [Option.some.injEq] at h
      subst h
      cases r with
      | tmp t =>
        simp only [compRes, Option.some.injEq] at hq
        subst hq
        simp only [evRes, Option.map_eq_some_iff] at he
        obtain ⟨vs', hv, rfl⟩ := he
        obtain ⟨us, h1, h2, h3⟩ := run_res m hE rs qs' vs' hqs hv
        refine ⟨tmps.getD t undef :: us, ?_, by simp [h2], fun i v u ev eu hn => ?_⟩
        · rw [List.mapM_cons]
          simp only [resOne, Sem.run_bind, Sem.run_pure, Result.andThen_ok, h1]
        · cases i with
          | zero => simp only [List.getElem?_cons_zero, Option.some.injEq] at ev eu; subst ev eu; exact hE t hn
          | succ i => exact h3 i v u (by simpa using ev) (by simpa using eu) hn
      | cell a t =>
        simp only [compRes] at hq
        split at hq
        · rename_i g sz hg hsz
          simp only [Option.some.injEq] at hq
          subst hq
          simp only [evRes] at he
          split at he
          · rename_i cs vs' hcs hv
            obtain ⟨us, h1, h2, h3⟩ := run_res m hE rs qs' vs' hqs hv
            have hn : lk T a ≠ .un := by intro e; rw [e] at hcs; cases hcs
            obtain ⟨A, hA, hcells⟩ := m.rdC (hE a hn) hcs
            have hA' : tmps.getD a undef = .pointer (some A) := hA
            obtain ⟨v0, hv0, rfl⟩ : ∃ v0, (if g then (if sz ≤ cs.length then some (.agg (cs.take sz)) else none) else cs[0]?) = some v0 ∧ vs = v0 :: vs' := by
              cases g with
              | true =>
                simp only [if_true] at he ⊢
                split at he
                · rename_i hle
                  simp only [Option.some.injEq] at he
                  rw [if_pos hle]
                  exact ⟨_, rfl, he.symm⟩
                · cases he
              | false =>
                simp only [Bool.false_eq_true, if_false, Option.map_eq_some_iff] at he ⊢
                obtain ⟨v0, h0, h1⟩ := he
                exact ⟨v0, h0, h1.symm⟩
            obtain ⟨u, k1, k2⟩ := run_loadVar (P := P) hg hsz hcells hv0
            refine ⟨u :: us, ?_, by simp [h2], fun i v u' ev eu hn => ?_⟩
            · rw [List.mapM_cons]
              simp only [resOne, Sem.run_bind, Sem.run_pure, Result.andThen_ok, hA', asAddr, k1, h1]
            · cases i with
              | zero => simp at ev eu; subst ev eu; exact k2
              | succ i => exact h3 i v u' (by simpa using ev) (by simpa using eu) hn
          · cases he
        · cases hq
    · cases h

theorem run_results {md : Nat → Md} (m : Mem P md w O X μ H L) {T : Tm} {a : Act} (hE : SimT w O X μ T a) {F : Func} {qs : List RV} {vs : List AV} (h : allM (compRes P) F.results.toList = some qs) (he : evRes H T L qs = some vs) :
    ∃ u, (results F a.tmps).run P w = .ok u w ∧ (one vs ≠ .un → Rep w O X μ (one vs) u) := by
  obtain ⟨us, h1, h2, h3⟩ := run_res (P := P) m (tmps := a.tmps) (ds := a.defers) hE F.results.toList qs vs h he
  refine ⟨if h : us.toArray.size = 1 then us.toArray[0] else .tuple us.toArray, ?_, fun hn => ?_⟩
  · have e : results F a.tmps = (do let vs ← F.results.mapM (resOne a.tmps); pure (if h : vs.size = 1 then vs[0] else .tuple vs)) := rfl
    rw [e, Array.mapM_eq_mapM_toList]
    simp only [Sem.run_bind, Sem.run_map, h1, Result.andThen_ok, Sem.run_pure]
  · match us, vs, h2 with
    | [u], [v], _ => exact h3 0 v u rfl rfl hn
    | [], [], _ => exact .tup [] #[] rfl (fun i a u e => by simp at e)
    | u1 :: u2 :: us, v1 :: v2 :: vs, hl =>
      rw [dif_neg (by simp)]
      exact .tup _ _ (by simp at hl ⊢; exact hl) (fun i x u ex eu hn' => h3 i x u ex (by simpa using eu) hn')

theorem lk_start : ∀ (vs : List Nat) (as : List AV) (t : Nat), lk (start vs as) t ≠ .un → as[t]? = some (lk (start vs as) t)
  | [], as, t, h => absurd rfl h
  | x :: vs, as, t, h => by
    have hk : start (x :: vs) as = (x, (as[x]?).getD .un) :: start vs as := rfl
    rw [hk] at h ⊢
    simp only [lk] at h ⊢
    split
    · rename_i e
      rw [if_pos e] at h
      subst e
      cases hx : as[x]? with
      | none => rw [hx] at h; exact absurd rfl h
      | some v => rfl
    · rename_i e
      rw [if_neg e] at h
      exact lk_start vs as t h

/-- A function leaves, its marks and all. -/
theorem leaves {md : Nat → Md} {F : Func} {T : Tm} {a : Act} {qs : List RV} {vs : List AV} (hrs : allM (compRes P) F.results.toList = some qs) (he : evRes H T L qs = some vs) {w0 : World} {O0 X0 : Nat → Prop} {μ0 : Mu} {b : Nat} (hb : w0.heap.size ≤ b) :
    ∀ (ds : List Deferred) (w : World), Ext w0 O0 X0 μ0 w O X μ → Mem P md w O X μ H L → SimT w O X μ T a → Marks w O b ds →
      LeavesInM (rf none) 0 P F a.tmps (fun e w' => ∃ u, e = .returned u ∧ ∃ O' X' μ', Ext w0 O0 X0 μ0 w' O' X' μ' ∧ Mem P md w' O' X' μ' H L ∧ (one vs ≠ .un → Rep w' O' X' μ' (one vs) u)) ds .returning w
  | [], w, h, m, hE, _ => by
    obtain ⟨u, j1, j2⟩ := run_results (P := P) m hE hrs he
    exact ⟨u, j1, u, rfl, O, X, μ, h, m, j2⟩
  | d :: ds, w, h, m, hE, hk => by
    obtain ⟨D, h1, h2, h3, h4⟩ := hk.2.1 d (by simp)
    refine ⟨by simp, .inl ⟨D, _, h1, run_takeDeferred h4, ?_⟩⟩
    refine leaves hrs he hb ds _ (h.putDef h4 (by omega) none) (m.putDef h4 none) (fun t hn => (hE t hn).same (putDef_cell h4) (putDef_shape h4)) ⟨by simpa using hk.1, fun e hee => ?_, (List.pairwise_cons.1 hk.2.2).2⟩
    obtain ⟨D2, g1, g2, g3, g4⟩ := hk.2.1 e (by simp [hee])
    refine ⟨D2, g1, g2, g3, ?_⟩
    rw [World.putObj_heap_other (fun q => ?_)]
    · exact g4
    · exact (List.pairwise_cons.1 hk.2.2).1 e hee D h1 (by rw [← q]; exact g1)

theorem foldl_bind (w : World) (O X : Nat → Prop) (μ : Mu) : ∀ (ps : List Nat) (vs : List AV) (us : List Value) (T : Tm) (tmps : Array Value), ps.length = vs.length → us.length = vs.length → (∀ t ∈ ps, t < tmps.size) →
    (∀ (i : Nat) (a : AV) (u : Value), vs[i]? = some a → us[i]? = some u → a ≠ .un → Rep w O X μ a u) → (∀ t, lk T t ≠ .un → Rep w O X μ (lk T t) (tmps.getD t undef)) →
    (∀ t, lk (bindP ps vs T) t ≠ .un → Rep w O X μ (lk (bindP ps vs T) t) (((ps.zip us).foldl (fun x (p : Nat × Value) => x.setIfInBounds p.1 p.2) tmps).getD t undef)) ∧ ((ps.zip us).foldl (fun x (p : Nat × Value) => x.setIfInBounds p.1 p.2) tmps).size = tmps.size
  | [], vs, us, T, tmps, h1, h2, h3, h4, h5 => by
    match vs, us with
    | [], [] => exact ⟨h5, rfl⟩
    | [], _ :: _ => simp at h2
    | _ :: _, _ => simp at h1
  | p :: ps, vs, us, T, tmps, h1, h2, h3, h4, h5 => by
    match vs, us with
    | [], _ => simp at h1
    | _ :: _, [] => simp at h2
    | v :: vs, u :: us =>
      have hp := h3 p (by simp)
      obtain ⟨k1, k2⟩ := foldl_bind w O X μ ps vs us ((p, v) :: T) (tmps.setIfInBounds p u) (by simpa using h1) (by simpa using h2) (fun t ht => by simpa using h3 t (by simp [ht])) (fun i a x ea ex => h4 (i + 1) a x (by simpa using ea) (by simpa using ex)) (fun t hn => by
        simp only [lk] at hn ⊢
        split
        · rename_i e
          subst e
          rw [if_pos rfl] at hn
          have := h4 0 v u rfl rfl hn
          simpa [Array.getD_eq_getD_getElem?, hp] using this
        · rename_i e
          rw [if_neg e] at hn
          have := h5 t hn
          simpa [Array.getD_eq_getD_getElem?, Array.getElem?_setIfInBounds_ne e] using this)
      refine ⟨k1, by simpa using k2⟩

/-- One round. -/
theorem round_sound (hmx : P.follows .mixedOrders = true) {G : GP} {call : CallT} {loop : LoopT} {k : Nat} (hs : SoundC P G.md call) (hy : SoundY P G.md call) (hl : SoundL P G.md k loop) {l b : Nat} {vs : List AV} {v : AV} {L' : Lv}
    (h : evY G call loop (.yl l b :: vs) H L = some (v, L')) {g : Nat} {vals : Array Value} (m : Mem P G.md w O X μ H L) (hmu : μ l b = some (g, 0)) (ha : Args w O X μ vs vals) :
    ∃ f tmps asg bd, (Instr.yield g vals).run P w = .ok (.round g f tmps asg bd) w ∧ ∀ r n, RoundIn (rf r) n P g f tmps asg bd w fun e w' => ∃ u, e = .returned u ∧ ∃ O' X' μ', Ext w O X μ w' O' X' μ' ∧ Mem P G.md w' O' X' μ' H L' ∧ (v ≠ .un → Rep w' O' X' μ' v u) := by
  simp only [evY] at h
  split at h
  · rename_i hlv
    subst hlv
    split at h
    · rename_i ps T ca cb hb
      split at h
      · rename_i hlen
        split at h
        · rename_i T1 L1 hev
          split at h
          · rename_i hb1
            simp only [Option.some.injEq, Prod.mk.injEq] at h
            obtain ⟨rfl, rfl⟩ := h
            obtain ⟨g', o', q1, hXg, q3⟩ := m.cur b _ hb trivial
            rw [hmu] at q1
            simp only [Option.some.injEq, Prod.mk.injEq] at q1
            obtain ⟨rfl, rfl⟩ := q1
            obtain ⟨_, rec, r1, r2, r3, nt, r4, r5, r6, r7, r8, r9, r10⟩ := q3
            simp only [Bool.and_eq_true] at r8
            have hpsz : rec.params.size = vs.length := by rw [← hlen, ← r3]; simp
            refine ⟨_, _, _, _, run_yield r1 (by rw [ha.1, hpsz]), fun r n => roundIn_of_wpIn trivial ?_⟩
            have hgs := (Array.getElem?_eq_some_iff.1 r1).1
            have nX : ¬ (fun k => X k ∧ k ≠ g) g := fun q => q.2 rfl
            -- the level without the record
            have m0 : Mem P G.md w O (fun k => X k ∧ k ≠ g) μ H (L.set b .dead) := by
              refine ⟨fun k q => m.xo k q.1, m.ol, fun i hi => m.dom i (by simpa using hi), m.dom2, fun i ab e hlive => ?_, fun i j y z p q' q'' e1 l1 e2 l2 h1 h2 => ?_, fun l' i ab hlt e hlive => ?_⟩
              · rcases getElem?_set_of e with ⟨_, rfl⟩ | ⟨hne, e'⟩
                · exact hlive.elim
                · obtain ⟨p, q, h1, h2, h3⟩ := m.cur i ab e' hlive
                  exact ⟨p, q, h1, ⟨h2, fun q' => hne (m.inj i b ab _ p q 0 e' hlive hb trivial h1 (by rw [q']; exact hmu))⟩, h3.down (fun _ z => z.1)⟩
              · rcases getElem?_set_of e1 with ⟨_, rfl⟩ | ⟨_, e1'⟩
                · exact l1.elim
                · rcases getElem?_set_of e2 with ⟨_, rfl⟩ | ⟨_, e2'⟩
                  · exact l2.elim
                  · exact m.inj i j y z p q' q'' e1' l1 e2' l2 h1 h2
              · have e' : getB H L l' i = some ab := by
                  unfold getB at e ⊢
                  rw [if_neg (by omega)] at e ⊢
                  exact e
                obtain ⟨p, q, h1, h2, h3⟩ := m.old l' i ab hlt e' hlive
                exact ⟨p, q, h1, fun z => h2 z.1, h3.down (fun _ z => z.1)⟩
            have hfold := foldl_bind w O X μ ps vs vals.toList T rec.tmps hlen (by simpa using ha.1) (fun t ht => Nat.lt_of_lt_of_le (r7 t ht) r6) (fun i a u ea eu hn => ha.2 i a u ea (by simpa using eu) hn) r10
            have hfe : (rec.params.zip vals).foldl (fun tmps (x : Nat × Value) => tmps.setIfInBounds x.1 x.2) rec.tmps = (ps.zip vals.toList).foldl (fun x (p : Nat × Value) => x.setIfInBounds p.1 p.2) rec.tmps := by
              rw [← Array.foldl_toList, Array.toList_zip, r3]
            rw [← hfe] at hfold
            have hE0 : SimT w O (fun k => X k ∧ k ≠ g) μ (bindP ps vs T) ⟨(rec.params.zip vals).foldl (fun tmps (x : Nat × Value) => tmps.setIfInBounds x.1 x.2) rec.tmps, []⟩ := fun t hn => (hfold.1 t hn).down (fun _ z => z.1)
            have hst0 : St nt [] ⟨(rec.params.zip vals).foldl (fun tmps (x : Nat × Value) => tmps.setIfInBounds x.1 x.2) rec.tmps, []⟩ := ⟨by show nt ≤ Array.size _; rw [hfold.2]; exact r6, rfl⟩
            have hmk0 : Marks w O w.heap.size [] := ⟨Nat.le_refl _, fun d hd => by simp at hd, .nil⟩
            simp only [evC] at hev
            split at hev
            · rename_i Ta La hea
              refine simC (r := some g) hmx hs hy hl rec.assign ca r4 (.inr r8.1) hea m0 hE0 hst0 hmk0 (fun a1 w1 O1 X1 μ1 ds1 k1 k2 k3 k4 k5 => ?_)
              have h1g : w1.heap[g]? = some (.loop rec) := (k1.block g hgs nX).trans r1
              have nX1 : ¬ X1 g := fun q => (k1.x' g q).elim nX (fun q => by omega)
              refine ⟨_, run_beginRound h1g r2, ?_⟩
              have nold : ∀ l' i ab o, l' < H.length → getB H La l' i = some ab → ab.live → μ1 l' i = some (g, o) → False := fun l' i ab o hlt e hlive hq => by
                have e' : getB H L l' i = some ab := by
                  unfold getB at e ⊢
                  rw [if_neg (by omega)] at e ⊢
                  exact e
                obtain ⟨p, q, z1, z2, _⟩ := m.old l' i ab hlt e' hlive
                have := k1.mu l' i _ z1
                rw [hq] at this
                simp only [Option.some.injEq, Prod.mk.injEq] at this
                exact z2 (by rw [← this.1]; exact hXg)
              have m2 := k2.putLoop h1g { rec with state := .busy } (fun i ab o e hlive hq => by
                obtain ⟨p, q, z1, z2, _⟩ := k2.cur i ab e hlive
                rw [hq] at z1
                simp only [Option.some.injEq, Prod.mk.injEq] at z1
                exact nX1 (by rw [z1.1]; exact z2)) nold
              have s2 : SimT (w1.putObj g (.loop { rec with state := .busy })) O1 X1 μ1 Ta a1 := fun t hn => (k3 t hn).same (putLoop_cell h1g _) (putLoop_shape h1g _)
              have h2g : (w1.putObj g (.loop { rec with state := .busy })).heap[g]? = some (.loop { rec with state := .busy }) := World.putObj_heap_same (Array.getElem?_eq_some_iff.1 h1g).1
              have mk2 : Marks (w1.putObj g (.loop { rec with state := .busy })) O1 w.heap.size ds1 := by
                refine ⟨by simpa using k5.1, fun d hd => ?_, k5.2.2⟩
                obtain ⟨D, f1, f2, f3, f4⟩ := k5.2.1 d hd
                refine ⟨D, f1, f2, f3, ?_⟩
                rw [World.putObj_heap_other (fun q => by rw [q, h1g] at f4; cases f4)]
                exact f4
              have r8b : (some g = none) ∨ noR cb = true := .inr r8.2
              refine simC (r := some g) hmx hs hy hl rec.body cb r5 r8b hev m2 s2 k4 mk2 (fun a3 w3 O3 X3 μ3 ds3 j1 j2 j3 j4 j5 => ?_)
              have hs1 := k1.size
              have h3g : w3.heap[g]? = some (.loop { rec with state := .busy }) := (j1.block g (by simp; omega) nX1).trans h2g
              have nX3 : ¬ X3 g := fun q => (j1.x' g q).elim nX1 (fun q => by simp at q; omega)
              refine ⟨.bool true, w3.putObj g (.loop rec), ?_, ?_⟩
              · have := run_endRound (P := P) none h3g
                have hre : ({ ({ rec with state := .busy } : Loop) with state := if (none : Option Code).isNone then .ready else .done, pending := none } : Loop) = rec := by
                  have e1 : rec.state = .ready := r2
                  have e2 : rec.pending = none := r9
                  cases rec
                  simp only at e1 e2
                  subst e1 e2
                  rfl
                rw [hre] at this
                exact this
              · refine ⟨_, rfl, O3, fun k => X3 k ∨ k = g, μ3, k1.round hXg h1g _ _ j1 h3g, ?_, fun _ => .bool true⟩
                have hmu3 : μ3 H.length b = some (g, 0) := j1.mu _ _ _ (k1.mu _ _ _ hmu)
                refine j2.back h3g rec (j1.o g (k1.o g (m.xo g hXg))) nX3 hmu3 (List.getElem?_eq_some_iff.1 hb1).1 (fun l' i ab o hlt e hlive hq => ?_) ?_
                · rw [getB_lt (L := L) hlt] at e
                  obtain ⟨p, q, z1, z2, _⟩ := m.old l' i ab hlt e hlive
                  have := j1.mu l' i _ (k1.mu l' i _ z1)
                  rw [hq] at this
                  simp only [Option.some.injEq, Prod.mk.injEq] at this
                  exact z2 (by rw [← this.1]; exact hXg)
                · refine ⟨rfl, rec, World.putObj_heap_same (Array.getElem?_eq_some_iff.1 h3g).1, r2, r3, nt, r4, r5, r6, r7, by rw [r8.1, r8.2]; rfl, r9, fun t hn => ?_⟩
                  have q1 : Rep w O (fun k => X k ∧ k ≠ g) μ (lk T t) (rec.tmps.getD t undef) := (r10 t hn).down (fun _ z => z.1)
                  have q2 := (q1.ext m0.xo k1).same (putLoop_cell h1g { rec with state := .busy }) (putLoop_shape h1g { rec with state := .busy })
                  have q3 := (q2.ext k2.xo j1).up (g0 := g) (fun a e => loop_cell h3g a e)
                  exact q3.same (putLoop_cell h3g rec) (putLoop_shape h3g rec)
            · cases hev
            · cases hev
            · cases hev
          · cases h
        · cases h
      · cases h
    · cases h
  · cases h

/-- Of what functions a text is. -/
structure Holds (P : Program) (G : GP) : Prop where
  mixed : P.follows .mixedOrders = true
  fn : ∀ f fn, G.fn f = some fn → ∃ F, P.funcs[f]? = some F ∧ compFn P G.md F = some fn ∧ (F.name == "runtime.NumGoroutine") = false
  ex : ∀ f g, G.ex f = some g → SoundC P G.md (fun f' as H L => if f' = f then g f as H L else none)
  yf : G.fn yieldF = none
  ye : G.ex yieldF = none

theorem sound_lev {G : GP} (hG : Holds P G) : ∀ k, SoundC P G.md (lev G k).1 ∧ SoundY P G.md (lev G k).1 ∧ SoundL P G.md k (lev G k).2
  | 0 => ⟨fun f as H L v L' h => (by cases h), fun l b vs H L v L' h => (by cases h), fun nt k c _ H T L e T' L' h => (by cases h)⟩
  | k + 1 => by
    obtain ⟨ih1, ihy, ih2⟩ := sound_lev hG k
    refine ⟨?_, ?_, ?_⟩
    · intro f as H L v L' h hyf
      simp only [lev] at h
      split at h
      · rename_i g hg
        exact hG.ex f g hg f as H L v L' (by simp only [if_true]; exact h) hyf
      · split at h
        · rename_i fn hfn
          obtain ⟨F, hF, hcF, hname⟩ := hG.fn f fn hfn
          unfold compFn at hcF
          split at hcF
          · rename_i code hbody
            split at hcF
            · rename_i c rs hc hrs
              simp only [Option.some.injEq] at hcF
              subst hcF
              refine ⟨⟨F, hF, by rw [hbody]; rfl, hname⟩, fun w O X μ vals m ha => ?_⟩
              refine rf_calls (n := 0) (callsIn_of_wp_marks hF hbody trivial ?_)
              have hE0 : ∀ vs, SimT w O X μ (start vs as) ⟨vals ++ Array.replicate (F.ntmps - vals.size) undef, []⟩ := fun vs t hn => by
                have e := lk_start vs as t hn
                have hlt : t < vals.size := by rw [ha.1]; exact (List.getElem?_eq_some_iff.1 e).1
                have hr := ha.2 t _ vals[t] e (Array.getElem?_eq_getElem hlt) hn
                simp only [Act.eval, Array.getD_eq_getD_getElem?]
                rw [Array.getElem?_append_left hlt, Array.getElem?_eq_getElem hlt]
                exact hr
              have hst : St F.ntmps [] ⟨vals ++ Array.replicate (F.ntmps - vals.size) undef, []⟩ := ⟨by simp; omega, rfl⟩
              have hmk : Marks w O w.heap.size [] := ⟨Nat.le_refl _, fun d hd => by simp at hd, .nil⟩
              have fin : ∀ (e : Ex) (T' : Tm) (L1 : Lv) (vs : List AV), e = .normal ∨ e = .ret → evRes H T' L1 rs = some vs → v = one vs → L' = L1 →
                  ∀ a' w' O' X' μ' ds', Ext w O X μ w' O' X' μ' → Mem P G.md w' O' X' μ' H L1 → SimT w' O' X' μ' T' a' → St F.ntmps ds' a' → Marks w' O' w.heap.size ds' →
                  bodyPostM (rf none) 0 P F (fun e w' => ∃ u, e = .returned u ∧ ∃ O' X' μ', Ext w O X μ w' O' X' μ' ∧ Mem P G.md w' O' X' μ' H L' ∧ (v ≠ .un → Rep w' O' X' μ' v u)) (exitOf e) a' w' := by
                intro e T' L1 vs he hres hv hL a' w' O' X' μ' ds' k1 k2 k3 k4 k5
                have := leaves hrs hres (Nat.le_refl _) ds' w' k1 k2 k3 k5
                rw [← k4.2] at this
                subst hv hL
                rcases he with rfl | rfl
                · exact this
                · exact this
              unfold evFn at h
              split at h
              · rename_i T' L1 h1
                simp only [Option.map_eq_some_iff, Prod.mk.injEq] at h
                obtain ⟨vs, hvs, rfl, rfl⟩ := h
                exact simC hG.mixed ih1 ihy ih2 code c hc (.inl rfl) h1 m (hE0 _) hst hmk (fin .normal T' _ vs (.inl rfl) hvs rfl rfl)
              · rename_i T' L1 h1
                simp only [Option.map_eq_some_iff, Prod.mk.injEq] at h
                obtain ⟨vs, hvs, rfl, rfl⟩ := h
                exact simC hG.mixed ih1 ihy ih2 code c hc (.inl rfl) h1 m (hE0 _) hst hmk (fin .ret T' _ vs (.inr rfl) hvs rfl rfl)
              · cases h
            · cases hcF
          · cases hcF
        · rw [if_neg hyf] at h
          cases h
    · intro l b vs H L v L' h w O X μ g vals m hmu ha
      simp only [lev, hG.ye, hG.yf, if_true] at h
      exact round_sound hG.mixed ih1 ihy ih2 h m hmu ha
    · intro nt kc c hc H T L e T' L' h r n0 hr w O X μ a b ds m hE ha hk Q hQ
      simp only [lev] at h
      rw [roundsIn_succ]
      split at h
      · rename_i T1 L1 h1
        refine simC hG.mixed ih1 ihy ih2 kc c hc hr h1 m hE ha hk (fun a1 w1 O1 X1 μ1 ds1 k1 k2 k3 k4 k5 => ?_)
        exact ih2 nt kc c hc H T1 L1 e T' L' h r n0 hr w1 O1 X1 μ1 a1 b ds1 k2 k3 k4 k5 Q (fun a' w' O' X' μ' ds' j1 j2 j3 j4 j5 => hQ a' w' O' X' μ' ds' (k1.trans j1) j2 j3 j4 j5)
      · rename_i i T1 L1 h1
        simp only [Option.some.injEq, Prod.mk.injEq] at h
        obtain ⟨rfl, rfl, rfl⟩ := h
        exact simC hG.mixed ih1 ihy ih2 kc c hc hr h1 m hE ha hk hQ
      · rename_i T1 L1 h1
        simp only [Option.some.injEq, Prod.mk.injEq] at h
        obtain ⟨rfl, rfl, rfl⟩ := h
        exact simC hG.mixed ih1 ihy ih2 kc c hc hr h1 m hE ha hk hQ
      · cases h

/-- What the evaluator says of a call, the machine does. -/
theorem sound_callW {G : GP} (hG : Holds P G) : SoundC P G.md (callW G) := by
  intro f as H L v L' h
  obtain ⟨k, hk⟩ := (callW_some ..).1 h
  exact (sound_lev hG k).1 f as H L v L' hk

end
end Go.Ev
