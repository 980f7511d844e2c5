/- Operations that write memory, all of them: one theorem. -/
import Derived.Test.YtiplefdmpcjgcaaGreatEvAppendA
import Derived.Test.YtiplefdmpcjgcaaGreatEvReadC
namespace Go.Ev
open Go Go.RowKit

section
variable {P : Program} {md : Nat → Md} {w : World} {O X : Nat → Prop} {μ : Mu} {H : List Lv} {L : Lv}

theorem run_storeVar {t : TypeId} {s : Nat} (hs : tsize P t = some s) {A : Addr} {v : Value} {w' : World} (hv : v.cells.size = s) (h : (storeCells A v.cells.toList).run P w = .ok () w') : (storeVar t A v).run P w = .ok () w' := by
  simp [storeVar, run_sizeOf hs, hv, h]

/-- *a = x -/
theorem write_store (m : Mem P md w O X μ H L) {t : TypeId} {sz : Nat} (hs : tsize P t = some sz) {l b i : Nat} {cs vs : List AV} {av xv : Value} {x : AV} {L' : Lv} (ha : Rep w O X μ (.ptr l b i) av) (hx : Rep w O X μ x xv) (hl : x.lay = some vs)
    (hb : getB H L l b = some (.cells cs)) (hv : vs.length = sz) (hi : i + sz ≤ cs.length) (hset : setB H L l b (.cells (put cs i vs)) = some L') :
    ∃ w', (Instr.storeAt t av xv).run P w = .ok () w' ∧ Ext w O X μ w' O X μ ∧ Mem P md w' O X μ H L' := by
  obtain ⟨rfl, hbl, rfl⟩ := setB_spec hset
  rw [getB_cur] at hb
  cases ha with
  | ptr _ _ _ g o hmu =>
    obtain ⟨g', o', q1, hXg, arr, ty', q2, q3, q4⟩ := m.cur b _ hb AB.cells_live
    rw [hmu] at q1
    simp only [Option.some.injEq, Prod.mk.injEq] at q1
    obtain ⟨rfl, rfl⟩ := q1
    obtain ⟨r1, r2, r3⟩ := rep_lay hx hl
    obtain ⟨s1, s2, s3⟩ := store_row (P := P) m (i := i) (vs := vs) (us := xv.cells.toList) hb hmu q2 q3 q4 ⟨by simpa using r1, fun i a u e1 e2 => r2 i a u e1 (by simpa using e2), fun i u e2 => r3 i u (by simpa using e2)⟩ (by omega)
    refine ⟨_, ?_, s2, s3⟩
    simp only [Instr.storeAt, Instr.sureAddr, Sem.run_bind, Sem.run_pure, Result.andThen_ok]
    exact run_storeVar hs (by rw [r1, hv]) s1

theorem elems_ne {x : AV} {xs : List (List AV)} (h : Ev.elems H L x = some xs) : x ≠ .un := by rintro rfl; cases h

/-- What an operation of the machine comes to: its value, or nothing. -/
def Came (w' : World) (O' X' : Nat → Prop) (μ' : Mu) (v : AV) (nx : Next) : Prop := nx = .skip ∧ v = .un ∨ ∃ u, nx = .value u ∧ (v ≠ .un → Rep w' O' X' μ' v u)

theorem write_mset (m : Mem P md w O X μ H L) {E : Tm} {a : Act} (hE : SimT w O X μ E a) {t : TypeId} {x k y : Operand} {i : Ins} {v : AV} {L' : Lv} 
    (hc : (match P.underlying t with
    | some (.map kt _) => match intOfT P kt, compOd x, compOd k, compOd y with
      | some _, some m, some k, some v => some (Ins.mset m k v)
      | _, _, _, _ => none
    | _ => none) = some i) (hv : evW H E L i = some (v, L')) :
    v = .un ∧ ∃ w', (Instr.mapUpdate t (a.eval x) (a.eval k) (a.eval y)).run P w = .ok () w' ∧ Ext w O X μ w' O X μ ∧ Mem P md w' O X μ H L' := by
  split at hc
  · rename_i kt et ht
    split at hc
    · rename_i kk x' k' y' hkt hx hk hy
      simp only [Option.some.injEq] at hc
      subst hc
      simp only [evW] at hv
      split at hv
      · rename_i l b hmp
        split at hv
        · rename_i es hes
          split at hv
          · cases hv
          · rename_i hodd
            simp only [Bool.or_eq_true, not_or, Bool.not_eq_true] at hodd
            obtain ⟨ho1, ho2⟩ := hodd
            cases hkv : k'.ev E with
            | int kd n =>
              rw [hkv] at hv
              have hxr := rep_od hE hx (rep_ne hmp (by simp))
              rw [hmp] at hxr
              have hkr := asInt_rep (rep_od hE hk (rep_ne hkv (by simp))) hkv
              have hyn : y'.ev E ≠ .un := by intro e; rw [e] at ho2; cases ho2
              have hyr := rep_od hE hy hyn
              split at hv
              · rename_i i1 z1 hf
                simp only [Option.map_eq_some_iff, Prod.mk.injEq] at hv
                obtain ⟨L1, hset, rfl, rfl⟩ := hv
                exact ⟨rfl, write_map (P := P) m ht (intOfT_spec hkt) hxr hes hkr hyr hf hset⟩
              · rename_i hf
                simp only [Option.map_eq_some_iff, Prod.mk.injEq] at hv
                obtain ⟨L1, hset, rfl, rfl⟩ := hv
                exact ⟨rfl, write_map (P := P) m ht (intOfT_spec hkt) hxr hes hkr hyr hf hset⟩
              · cases hv
            | _ => rw [hkv] at ho1; cases ho1
        · cases hv
      · cases hv
    · cases hc
  · cases hc

/-- What writes. -/
theorem simW (m : Mem P md w O X μ H L) {E : Tm} {a : Act} (hE : SimT w O X μ E a) {o : Oper} {i : Ins} {v : AV} {L' : Lv} (hc : compOp P o.op = some i) (hk : i.kd = .w) (hv : evW H E L i = some (v, L')) :
    ∃ nx w' O' X' μ', (execOp a.eval o).run P w = .ok nx w' ∧ Came w' O' X' μ' v nx ∧ Ext w O X μ w' O' X' μ' ∧ Mem P md w' O' X' μ' H L' := by
  obtain ⟨dst, op, type, pos, after, guard⟩ := o
  simp only at hc
  have un : ∀ {s : Sem Unit} {w' : World}, s.run P w = .ok () w' → (do s; Pure.pure Next.skip : Sem Next).run P w = .ok .skip w' := fun h => by simp [h]
  cases op with
  | store t x y =>
    simp only [compOp] at hc
    split at hc
    · rename_i sz x' y' hs hx hy
      simp only [Option.some.injEq] at hc
      subst hc
      simp only [evW] at hv
      split at hv
      · rename_i l b j hptr
        split at hv
        · rename_i cs hcs
          split at hv
          · rename_i vs hvs
            split at hv
            · rename_i hfit
              simp only [Option.map_eq_some_iff, Prod.mk.injEq] at hv
              obtain ⟨L1, hset, rfl, rfl⟩ := hv
              have hxr := rep_od hE hx (rep_ne hptr (by simp))
              rw [hptr] at hxr
              have hyn : y'.ev E ≠ .un := by intro e; rw [e] at hvs; cases hvs
              obtain ⟨w', h1, h2, h3⟩ := write_store (P := P) m hs hxr (rep_od hE hy hyn) hvs hcs hfit.1 hfit.2 hset
              exact ⟨.skip, w', O, X, μ, un h1, .inl ⟨rfl, rfl⟩, h2, h3⟩
            · cases hv
          · cases hv
        · cases hv
      · cases hv
    · cases hc
  | mapUpdate t x k y =>
    obtain ⟨rfl, w', h1, h2, h3⟩ := write_mset (P := P) m hE hc hv
    exact ⟨.skip, w', O, X, μ, un h1, .inl ⟨rfl, rfl⟩, h2, h3⟩
  | insert t x k y =>
    obtain ⟨rfl, w', h1, h2, h3⟩ := write_mset (P := P) m hE hc hv
    exact ⟨.skip, w', O, X, μ, un h1, .inl ⟨rfl, rfl⟩, h2, h3⟩
  | call c =>
    simp only [compOp] at hc
    split at hc
    · rename_i as has
      split at hc
      · simp only [Option.some.injEq] at hc; subst hc; cases hk
      · simp only [Option.map_eq_some_iff] at hc; obtain ⟨z, _, rfl⟩ := hc; cases hk
      · rename_i bi hcal
        obtain ⟨cb, hex⟩ : ∃ cb, (execOp a.eval { dst := dst, op := .call c, type := type, pos := pos, after := after, guard := guard }).run P w
            = (builtin bi c.argTypes type cb (c.args.map a.eval)).run P w := ⟨_, by
          simp only [execOp, resolve, hcal, Sem.run_bind, Sem.run_pure, Result.andThen_ok, invoke]
          rfl⟩
        rw [hex]
        generalize c.args = args at has ⊢
        generalize c.argTypes = ats at hc ⊢
        have hargs : args.map a.eval = (args.toList.map a.eval).toArray := by apply Array.ext'; simp
        have hats : ats = ats.toList.toArray := by simp
        rw [hargs]
        generalize hxs : args.toList = xs at has ⊢
        rw [hats]
        generalize htl : ats.toList = ts at hc ⊢
        obtain ⟨hl, hr⟩ := rep_ods hE has
        unfold compBuiltin at hc
        split at hc
        · (repeat' split at hc) <;> first | (simp only [Option.some.injEq] at hc; subst hc; cases hk; done) | cases hc
        · -- append
          rename_i s x t u
          have hl2 : xs.length = 2 := by have := (allM_spec has).1; simpa using this.symm
          match xs, hl2 with
          | [p, q], _ =>
            have hp : compOd p = some s := (allM_spec has).2 0 p s rfl rfl
            have hq : compOd q = some x := (allM_spec has).2 1 q x rfl rfl
            split at hc
            · rename_i e e2 ht hu
              split at hc
              · rename_i sz by_ z hs hby hz
                split at hc
                · rename_i hpos
                  simp only [Option.some.injEq] at hc
                  subst hc
                  obtain ⟨zv, hz1, hz2⟩ := tzero_spec hz
                  simp only [evW] at hv
                  split at hv
                  · rename_i ys zs hys hzs
                    split at hv
                    · rename_i hfit
                      obtain ⟨w', O', X', μ', u', h1, h2, h3, h4⟩ := write_append (P := P) (ty := type) m (sliceOf_spec ht) hs hby hpos.1 hz1 hz2 hpos.2 (rep_od hE hp (elems_ne hys)) (rep_od hE hq (elems_ne hzs)) hys hzs hfit.1 hfit.2.1 hfit.2.2 hv
                      refine ⟨.value u', w', O', X', μ', ?_, .inr ⟨u', rfl, fun _ => h2⟩, h3, h4⟩
                      simp only [builtin, List.map_cons, List.map_nil]
                      refine exec_a ?_
                      rw [append_types (sliceOf_spec ht) (sliceOf_spec hu)]
                      exact h1
                    · cases hv
                  · cases hv
                · cases hc
              · cases hc
            · cases hc
        · -- copy
          rename_i d s t ts'
          have hl2 : xs.length = 2 := by have := (allM_spec has).1; simpa using this.symm
          match xs, hl2 with
          | [p, q], _ =>
            have hp : compOd p = some d := (allM_spec has).2 0 p d rfl rfl
            have hq : compOd q = some s := (allM_spec has).2 1 q s rfl rfl
            split at hc
            · rename_i e ht
              split at hc
              · rename_i sz hs
                split at hc
                · rename_i hpos
                  simp only [Option.some.injEq] at hc
                  subst hc
                  simp only [evW] at hv
                  split at hv
                  · rename_i ys hys
                    have hn : d.ev E ≠ .un := by intro e; rw [e] at hv; cases hv
                    obtain ⟨w', u', h1, h2, h3, h4⟩ := write_copy (P := P) (ty := type) (ts := ts') m (sliceOf_spec ht) hs hpos (rep_od hE hp hn) (rep_od hE hq (elems_ne hys)) hys hv
                    refine ⟨.value u', w', O, X, μ, ?_, .inr ⟨u', rfl, fun _ => h2⟩, h3, h4⟩
                    simp only [builtin, List.map_cons, List.map_nil]
                    exact exec_a h1
                  · cases hv
                · cases hc
              · cases hc
            · cases hc
        · -- clear
          rename_i x t
          have hl1 : xs.length = 1 := by have := (allM_spec has).1; simpa using this.symm
          match xs, hl1 with
          | [p], _ =>
            have hp : compOd p = some x := (allM_spec has).2 0 p x rfl rfl
            split at hc
            · rename_i e ht
              split at hc
              · rename_i sz z hs hz
                split at hc
                · rename_i hpos
                  simp only [Option.some.injEq] at hc
                  subst hc
                  obtain ⟨zv, hz1, hz2⟩ := tzero_spec hz
                  simp only [evW] at hv
                  have hn : x.ev E ≠ .un := by intro e; rw [e] at hv; cases hv
                  obtain ⟨w', u', h1, h2, h3, h4⟩ := write_clear (P := P) (ty := type) m (sliceOf_spec ht) hs hpos hz1 hz2 (rep_od hE hp hn) hv
                  refine ⟨.value u', w', O, X, μ, ?_, .inr ⟨u', rfl, fun _ => h2⟩, h3, h4⟩
                  simp only [builtin, List.map_cons, List.map_nil]
                  exact exec_a h1
                · cases hc
              · cases hc
            · cases hc
        · simp only [Option.some.injEq] at hc; subst hc; cases hk
        · simp only [Option.some.injEq] at hc; subst hc; cases hk
        · cases hc
      · cases hc
    · cases hc
  | _ =>
    exfalso
    rw [comp_kd hc] at hk
    simp only [opKd, reduceCtorEq] at hk

end
end Go.Ev
