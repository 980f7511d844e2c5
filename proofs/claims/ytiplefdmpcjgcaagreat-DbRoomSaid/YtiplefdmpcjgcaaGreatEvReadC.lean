/- Operations that read alone, all of them: one theorem. -/
import Derived.Test.YtiplefdmpcjgcaaGreatEvReadB
namespace Go.Ev
open Go Go.RowKit

section
variable {P : Program} {md : Nat → Md} {w : World} {O X : Nat → Prop} {μ : Mu} {H : List Lv} {L : Lv}

theorem exec_v {s : Sem Value} {u : Value} (h : s.run P w = .ok u w) : (do pure (Next.value (← s)) : Sem Next).run P w = .ok (.value u) w := by
  simp [h]

theorem reads_len {a : Act} {E : Tm} (hE : SimT w O X μ E a) {as : List Od} {xs : List Operand} {ts : List TypeId} (hxs : allM compOd xs = some as) {b : Builtin} {i : Ins} {ty : TypeId} {v : AV} {cb : Array Bool}
    (hc : compBuiltin P b as ts = some i) (hk : i.kd = .r) (hv : evR H E L i = some v) : ∃ u, (builtin b ts.toArray ty cb (xs.map a.eval).toArray).run P w = .ok (.value u) w ∧ (v ≠ .un → Rep w O X μ v u) := by
  obtain ⟨hl, hr⟩ := rep_ods hE hxs
  unfold compBuiltin at hc
  split at hc
  · rename_i x t
    have hl1 : xs.length = 1 := by have := (allM_spec hxs).1; simpa using this.symm
    match xs, hl1 with
    | [y], _ =>
      have hxy : compOd y = some x := (allM_spec hxs).2 0 y x rfl rfl
      split at hc
      · rename_i e ht
        simp only [Option.some.injEq] at hc
        subst hc
        simp only [evR] at hv
        cases hx : x.ev E with
        | sl q zs =>
          have hy := rep_od hE hxy (rep_ne hx (by simp))
          rw [hx] at hv hy
          simp only [Option.some.injEq] at hv
          subst hv
          generalize hu : a.eval y = u at hy
          cases hy with
          | sln => exact ⟨.int .i64 0, by simp [builtin, Builtin.len_, run_underlying ht, hu, goInt], fun _ => .int _ _⟩
          | sl => exact ⟨.int .i64 zs.length, by simp [builtin, Builtin.len_, run_underlying ht, hu, goInt], fun _ => .int _ _⟩
        | own l b i n sz cl =>
          have hy := rep_od hE hxy (rep_ne hx (by simp))
          rw [hx] at hv hy
          simp only [Option.some.injEq] at hv
          subst hv
          generalize hu : a.eval y = u at hy
          cases hy with
          | own => exact ⟨.int .i64 n, by simp [builtin, Builtin.len_, run_underlying ht, hu, goInt], fun _ => .int _ _⟩
        | _ => rw [hx] at hv; simp at hv
      · rename_i n e ht
        simp only [Option.some.injEq] at hc
        subst hc
        simp only [evR, Od.ev, Option.some.injEq] at hv
        subst hv
        exact ⟨.int .i64 n, by simp [builtin, Builtin.len_, run_underlying ht, goInt], fun _ => .int _ _⟩
      · cases hc
  · split at hc
    · split at hc
      · split at hc
        · simp only [Option.some.injEq] at hc; subst hc; cases hk
        · cases hc
      · cases hc
    · cases hc
  · split at hc
    · split at hc
      · split at hc
        · simp only [Option.some.injEq] at hc; subst hc; cases hk
        · cases hc
      · cases hc
    · cases hc
  · split at hc
    · split at hc
      · split at hc
        · simp only [Option.some.injEq] at hc; subst hc; cases hk
        · cases hc
      · cases hc
    · cases hc
  · rename_i x zs
    simp only [Option.some.injEq] at hc
    subst hc
    simp only [evR] at hv
    obtain ⟨y, ys, rfl⟩ := List.exists_cons_of_ne_nil (show xs ≠ [] by rintro rfl; simp [allM] at hxs)
    have hxn := mxV_ne hv
    have hx := rep_od hE ((allM_spec hxs).2 0 y x rfl rfl) hxn
    obtain ⟨r, h1, h2⟩ := rep_mx (P := P) (zs.map (Od.ev E)) (ys.map a.eval) _ v _ hx (by simpa using hl.symm) (fun i p q e1 e2 => hr (i + 1) p q (by simpa using e1) (by simpa using e2)) hv
    exact ⟨r, by simp only [builtin, Builtin.max_, List.map_cons]; exact exec_v h1, fun _ => h2⟩
  · rename_i x zs
    simp only [Option.some.injEq] at hc
    subst hc
    simp only [evR] at hv
    obtain ⟨y, ys, rfl⟩ := List.exists_cons_of_ne_nil (show xs ≠ [] by rintro rfl; simp [allM] at hxs)
    have hxn := mnV_ne hv
    have hx := rep_od hE ((allM_spec hxs).2 0 y x rfl rfl) hxn
    obtain ⟨r, h1, h2⟩ := rep_mn (P := P) (zs.map (Od.ev E)) (ys.map a.eval) _ v _ hx (by simpa using hl.symm) (fun i p q e1 e2 => hr (i + 1) p q (by simpa using e1) (by simpa using e2)) hv
    exact ⟨r, by simp only [builtin, Builtin.min_, List.map_cons]; exact exec_v h1, fun _ => h2⟩
  · cases hc

/-- What reads alone. -/
theorem simR (m : Mem P md w O X μ H L) {E : Tm} {a : Act} (hE : SimT w O X μ E a) {o : Oper} {i : Ins} {v : AV} (hc : compOp P o.op = some i) (hk : i.kd = .r) (hv : evR H E L i = some v) :
    ∃ u, (execOp a.eval o).run P w = .ok (.value u) w ∧ (v ≠ .un → Rep w O X μ v u) := by
  obtain ⟨dst, op, type, pos, after, guard⟩ := o
  simp only at hc
  have mv : ∀ {x : Operand} {i : Ins}, (compOd x).map Ins.mv = some i → evR H E L i = some v → ∃ u, (Pure.pure (Next.value (a.eval x)) : Sem Next).run P w = .ok (.value u) w ∧ (v ≠ .un → Rep w O X μ v u) := by
    intro x i hc hv
    obtain ⟨y, hy, rfl⟩ := Option.map_eq_some_iff.1 hc
    simp only [evR, Option.some.injEq] at hv
    subst hv
    exact ⟨a.eval x, rfl, fun hn => rep_od hE hy hn⟩
  cases op with
  | move x => exact mv hc hv
  | assign x => exact mv hc hv
  | pick c p q =>
    simp only [compOp] at hc
    split at hc
    · rename_i c' p' q' h1 h2 h3
      simp only [Option.some.injEq] at hc
      subst hc
      simp only [evR] at hv
      cases hcv : c'.ev E with
      | bool t =>
        rw [hcv] at hv
        simp only [Option.some.injEq] at hv
        have hb := asBool_rep (rep_od hE h1 (rep_ne hcv (by simp))) hcv
        refine ⟨if t then a.eval p else a.eval q, by simp [execOp, hb, Go.asBool], fun hn => ?_⟩
        cases t
        · simp only [Bool.false_eq_true, if_false] at hv ⊢; subst hv; exact rep_od hE h3 hn
        · simp only [if_true] at hv ⊢; subst hv; exact rep_od hE h2 hn
      | _ => rw [hcv] at hv; simp at hv
    · cases hc
  | alloc t => simp only [compOp, Option.map_eq_some_iff] at hc; obtain ⟨z, _, rfl⟩ := hc; cases hk
  | box t x => simp only [compOp, Option.map_eq_some_iff] at hc; obtain ⟨z, _, rfl⟩ := hc; cases hk
  | build t ps =>
    simp only [compOp] at hc
    split at hc
    · rename_i z fs h1 h2
      split at hc
      · cases hc
      · rename_i hall
        simp only [Option.map_eq_some_iff] at hc
        obtain ⟨qs, hq, rfl⟩ := hc
        simp only [evR, Option.map_eq_some_iff] at hv
        obtain ⟨out, ho, rfl⟩ := hv
        obtain ⟨zv, hz1, hz2⟩ := tzero_spec h1
        obtain ⟨B, hB, hrB⟩ := rep_fill hE _ hq (repL_zero (t := t) hz2) ho
        refine ⟨.agg B, ?_, fun _ => hrB.agg⟩
        refine exec_v (run_build hz1 (fieldsOf_spec h2) (by simpa only [Bool.not_eq_false] using hall) ?_)
        rw [← hB]
        congr 1
        simp
    · cases hc
  | buildSlice t n ps =>
    simp only [compOp] at hc
    split at hc
    · split at hc
      · split at hc
        · simp only [Option.map_eq_some_iff] at hc; obtain ⟨z, _, rfl⟩ := hc; cases hk
        · cases hc
      · cases hc
    · cases hc
  | load t x =>
    simp only [compOp] at hc
    split at hc
    · rename_i g s y h1 h2 h3
      simp only [Option.some.injEq] at hc
      subst hc
      simp only [evR] at hv
      split at hv
      · rename_i cs hcs
        have hn : y.ev E ≠ .un := by intro e; rw [e] at hcs; cases hcs
        obtain ⟨A, hA, hcells⟩ := m.rdC (rep_od hE h3 hn) hcs
        obtain ⟨u, h4, h5⟩ := run_loadVar (P := P) h1 h2 hcells hv
        refine ⟨u, ?_, fun _ => h5⟩
        simp [execOp, Instr.loadAt, Instr.sureAddr, hA, h4]
      · cases hv
    · cases hc
  | store t x y =>
    simp only [compOp] at hc
    split at hc
    · simp only [Option.some.injEq] at hc; subst hc; cases hk
    · cases hc
  | nilCheck x =>
    simp only [compOp, Option.map_eq_some_iff] at hc
    obtain ⟨y, hy, rfl⟩ := hc
    simp only [evR] at hv
    cases hyv : y.ev E with
    | ptr l b i =>
      have hr := rep_od hE hy (rep_ne hyv (by simp))
      rw [hyv] at hr hv
      simp only [Option.some.injEq] at hv
      subst hv
      generalize hu : a.eval x = u at hr
      refine ⟨u, ?_, fun _ => hr⟩
      cases hr
      simp [execOp, hu]
    | ro b cs =>
      have hr := rep_od hE hy (rep_ne hyv (by simp))
      rw [hyv] at hr hv
      simp only [Option.some.injEq] at hv
      subst hv
      generalize hu : a.eval x = u at hr
      refine ⟨u, ?_, fun _ => hr⟩
      cases hr
      simp [execOp, hu]
    | fn f cs =>
      have hr := rep_od hE hy (rep_ne hyv (by simp))
      rw [hyv] at hr hv
      simp only [Option.some.injEq] at hv
      subst hv
      generalize hu : a.eval x = u at hr
      refine ⟨u, ?_, fun _ => hr⟩
      cases hr
      simp [execOp, hu]
    | _ => rw [hyv] at hv; simp at hv
  | binOp op t x y ty =>
    simp only [compOp] at hc
    split at hc
    · rename_i x' y' h1 h2
      simp only [Option.some.injEq] at hc
      subst hc
      simp only [evR] at hv
      have hx : x'.ev E ≠ .un := by intro e; rw [e] at hv; cases op <;> simp [binV, eqV] at hv
      have hy : y'.ev E ≠ .un := by
        intro e; rw [e] at hv
        cases hxe : x'.ev E <;> rw [hxe] at hv <;> cases op <;> simp [binV, eqV] at hv
      obtain ⟨u, h3, h4, h5⟩ := run_binV (P := P) t rfl (rep_od hE h1 hx) (rep_od hE h2 hy) hv
      exact ⟨u, by simp [execOp, h3, h4], fun _ => h5⟩
    · cases hc
  | unOp op t x =>
    simp only [compOp, Option.map_eq_some_iff] at hc
    obtain ⟨y, hy, rfl⟩ := hc
    simp only [evR] at hv
    have hn : y.ev E ≠ .un := by intro e; rw [e] at hv; cases op <;> simp [unV] at hv
    have hr := rep_od hE hy hn
    cases hyv : y.ev E <;> rw [hyv] at hv hr <;> cases op <;> simp only [unV, Option.some.injEq, reduceCtorEq] at hv
    · subst hv
      refine ⟨_, ?_, fun _ => .bool _⟩
      simp [execOp, Op.unary, asBool_rep hr rfl]
    · subst hv
      refine ⟨_, ?_, fun _ => .int _ _⟩
      simp [execOp, Op.unary, Op.intArith, asInt_rep hr rfl]
    · simp only [arI, Option.some.injEq] at hv
      subst hv
      refine ⟨_, ?_, fun _ => .int _ _⟩
      simp [execOp, Op.unary, Op.intBits, asInt_rep hr rfl]
  | convert s d x =>
    simp only [compOp] at hc
    split at hc
    · rename_i k1 k h1 h2
      simp only [Option.map_eq_some_iff] at hc
      obtain ⟨y, hy, rfl⟩ := hc
      simp only [evR] at hv
      cases hyv : y.ev E with
      | int k' n =>
        rw [hyv] at hv
        simp only [Option.some.injEq] at hv
        subst hv
        have hr := asInt_rep (rep_od hE hy (rep_ne hyv (by simp))) hyv
        refine ⟨.int k (k.wrap n), ?_, fun _ => .int _ _⟩
        refine exec_v ?_
        unfold convert
        simp only [Sem.run_bind, run_underlying (intOfT_spec h1), run_underlying (intOfT_spec h2), Result.andThen_ok, hr]
        rfl
      | _ => rw [hyv] at hv; simp at hv
    · cases hc
  | makeFunc fn fs cs =>
    cases fn with
    | func f =>
      simp only [compOp] at hc
      split at hc
      · rename_i fs' cs' h1 h2
        split at hc
        · rename_i he
          simp only [Option.some.injEq] at hc
          subst hc
          have hfs : fs' = [] := by simpa using he
          subst hfs
          have hfs0 : fs.toList = [] := List.eq_nil_of_length_eq_zero (by simpa using ((allM_spec h1).1).symm)
          simp only [evR, List.map_nil, List.nil_append, Option.some.injEq] at hv
          subst hv
          obtain ⟨hl, hr⟩ := rep_ods hE h2
          refine ⟨.func (.func f) #[] (cs.map a.eval), ?_, fun _ => .fn f _ _ (by simpa using hl.symm) (fun i x u e1 e2 hn => hr i x u e1 (by simpa using e2) hn)⟩
          have : fs = #[] := by cases fs; simpa using hfs0
          simp [execOp, Instr.makeFunc, this]
        · cases hc
      · cases hc
    | _ => simp [compOp] at hc
  | makeMap t r =>
    cases r with
    | none => simp only [compOp, Option.some.injEq] at hc; subst hc; cases hk
    | some r => simp [compOp] at hc
  | makeSlice t l c =>
    simp only [compOp] at hc
    split at hc
    · split at hc
      · split at hc
        · simp only [Option.some.injEq] at hc; subst hc; cases hk
        · cases hc
      · cases hc
    · cases hc
  | slice t x lo hi mx =>
    simp only [compOp] at hc
    split at hc
    · rename_i e h0
      split at hc
      · rename_i sz x' lo' hi' mx' h1 h2 h3 h4 h5
        simp only [Option.some.injEq] at hc
        subst hc
        simp only [evR] at hv
        obtain ⟨u, h6, h7⟩ := read_slice (P := P) hE (sliceOf_spec h0) h1 h2 h3 h4 h5 hv
        exact ⟨u, exec_v h6, fun _ => h7⟩
      · cases hc
    · cases hc
  | fieldAddr t x i =>
    simp only [compOp] at hc
    split at hc
    · rename_i fs x' h1 h2
      split at hc
      · rename_i f hf
        split at hc
        · rename_i s hs
          split at hc
          · rename_i hpos
            simp only [Option.some.injEq] at hc
            subst hc
            simp only [evR] at hv
            have run : ∀ (g o : Nat), a.eval x = .pointer (some ⟨g, o, none⟩) → (Instr.fieldAt t (a.eval x) i).run P w = .ok (.pointer (some ⟨g, o + f.offset, none⟩)) w := by
              intro g o hA
              unfold Instr.fieldAt
              simp only [Sem.run_bind, run_underlying (fieldsOf_spec h1), Result.andThen_ok, hf, hA, Instr.sureAddr, Sem.run_pure, fieldPlace, run_sizeOf hs, Sem.run_ite]
              rw [if_neg (by omega)]
              simp [Addr.add_lit]
            cases hxv : x'.ev E with
            | ptr l b j =>
              have hr := rep_od hE h2 (rep_ne hxv (by simp))
              rw [hxv] at hv hr
              simp only [Option.some.injEq] at hv
              subst hv
              generalize hu : a.eval x = u at hr
              cases hr with
              | ptr _ _ _ g o e =>
                refine ⟨_, exec_v (run g (o + j) hu), fun _ => ?_⟩
                rw [Nat.add_assoc]
                exact .ptr l b (j + f.offset) g o e
            | ro b cs =>
              have hr := rep_od hE h2 (rep_ne hxv (by simp))
              rw [hxv] at hv hr
              simp only at hv
              split at hv
              · simp only [Option.some.injEq] at hv
                subst hv
                generalize hu : a.eval x = u at hr
                cases hr with
                | ro _ _ g o U hb hcell hrr hcln =>
                  refine ⟨_, exec_v (run g o hu), fun _ => ?_⟩
                  refine .ro b _ g _ (fun k => U (f.offset + k)) (fun hne => hb (fun e => by rw [e] at hne; simp at hne)) (fun k y e => ?_) (fun k y e => ?_) (fun q y hy => hcln q y (List.mem_of_mem_drop hy))
                  · rw [List.getElem?_drop] at e
                    obtain ⟨q1, q2⟩ := hcell _ y e
                    exact ⟨by rw [← q1]; congr 2; exact Nat.add_assoc _ _ _, q2⟩
                  · rw [List.getElem?_drop] at e
                    exact hrr _ y e
              · cases hv
            | _ => rw [hxv] at hv; simp at hv
          · cases hc
        · cases hc
      · cases hc
    · cases hc
  | field t x i =>
    simp only [compOp] at hc
    split at hc
    · rename_i fs x' h1 h2
      split at hc
      · rename_i f hf
        split at hc
        · rename_i g s hg hs
          simp only [Option.some.injEq] at hc
          subst hc
          simp only [evR] at hv
          cases hxv : x'.ev E with
          | agg cs =>
            have hr := rep_od hE h2 (rep_ne hxv (by simp))
            rw [hxv] at hv hr
            simp only at hv
            generalize hu : a.eval x = u at hr
            cases hr with
            | agg _ vs q1 q2 q3 =>
              obtain ⟨r, h3, h4⟩ := read_part (P := P) hg hs ⟨q1, q2, q3⟩ f.offset hv
              refine ⟨r, exec_v ?_, fun _ => h4⟩
              unfold Instr.field
              simp only [Sem.run_bind, run_underlying (fieldsOf_spec h1), Result.andThen_ok, hf, hu, asAgg, Sem.run_pure, h3]
          | _ => rw [hxv] at hv; simp at hv
        · cases hc
      · cases hc
    · cases hc
  | indexAddr t x i =>
    simp only [compOp] at hc
    split at hc
    · rename_i e x' i' ht h2 h3
      split at hc
      · rename_i sz hs
        simp only [Option.some.injEq] at hc
        subst hc
        simp only [evR] at hv
        cases hiv : i'.ev E with
        | int k n =>
          rw [hiv] at hv
          have hi := asInt_rep (rep_od hE h3 (rep_ne hiv (by simp))) hiv
          have run : ∀ (A : Addr) (len cap : Nat), a.eval x = .slice (some A) len cap → 0 ≤ n → n < len → (Instr.indexAt t (a.eval x) (a.eval i)).run P w = .ok (.pointer (some (A.add (n.toNat * sz)))) w := by
            intro A len cap hA h0 h1
            unfold Instr.indexAt
            simp only [Sem.run_bind, run_underlying ht, Result.andThen_ok, hA, hi, asIntOf, Sem.run_pure]
            simp only [h0, h1, and_self, if_true, run_sizeOf hs, Sem.run_bind, Result.andThen_ok, Sem.run_pure]
          cases hxv : x'.ev E with
          | sl q xs =>
            have hr := rep_od hE h2 (rep_ne hxv (by simp))
            rw [hxv] at hv hr
            simp only at hv
            split at hv
            · rename_i h0
              split at hv
              · rename_i c hcx
                split at hv
                · rename_i hcl
                  simp only [Option.some.injEq] at hv
                  subst hv
                  generalize hu : a.eval x = u at hr
                  cases hr with
                  | sln => simp at hcx
                  | sl _ _ A sz' cp U hz hs' hx' hl hcc hb hcell hrr hcln =>
                    have hlt : n.toNat < xs.length := (List.getElem?_eq_some_iff.1 hcx).1
                    have hszz : sz' = sz := by rw [← hcl]; exact (hx' c (List.mem_of_getElem? hcx)).symm
                    subst hszz
                    obtain ⟨hsp, hbb⟩ := hb (by rintro rfl; simp at hcx)
                    have hAA : A = ⟨A.block, A.off, none⟩ := by cases A; simp_all
                    refine ⟨_, exec_v (run A xs.length cp hu h0 (by omega)), fun _ => ?_⟩
                    rw [hAA, Addr.add_lit]
                    exact .ro q.b c _ _ (fun k => U n.toNat k) (fun _ => hbb) (fun k y e => by
                      obtain ⟨q1, q2⟩ := hcell _ c hcx k y e
                      exact ⟨by rw [← q1]; congr 2; exact Nat.add_assoc _ _ _, q2⟩) (fun k y e => hrr _ c hcx k y e) (fun h y hy => hcln h c (List.mem_of_getElem? hcx) y hy)
                · cases hv
              · cases hv
            · cases hv
          | own l b o kk s cl =>
            have hr := rep_od hE h2 (rep_ne hxv (by simp))
            rw [hxv] at hv hr
            simp only at hv
            split at hv
            · rename_i h0
              simp only [Option.some.injEq] at hv
              subst hv
              obtain ⟨rfl, h00, h01⟩ := h0
              generalize hu : a.eval x = u at hr
              cases hr with
              | own _ _ _ _ _ _ g o' c A hmu hsp hn hA hcl hsh =>
                refine ⟨_, exec_v (run A kk c hu h00 h01), fun _ => ?_⟩
                rw [hA (by omega), Addr.add_lit, Nat.add_assoc]
                exact .ptr l b _ g o' hmu
            · cases hv
          | _ => rw [hxv] at hv; simp at hv
        | _ => rw [hiv] at hv; simp at hv
      · cases hc
    · rename_i n' e x' i' ht h2 h3
      split at hc
      · rename_i sz hs
        simp only [Option.some.injEq] at hc
        subst hc
        simp only [evR] at hv
        cases hiv : i'.ev E with
        | int k n =>
          rw [hiv] at hv
          have hi := asInt_rep (rep_od hE h3 (rep_ne hiv (by simp))) hiv
          cases hxv : x'.ev E with
          | ptr l b o =>
            have hr := rep_od hE h2 (rep_ne hxv (by simp))
            rw [hxv] at hv hr
            simp only at hv
            split at hv
            · rename_i h0
              simp only [Option.some.injEq] at hv
              subst hv
              generalize hu : a.eval x = u at hr
              cases hr with
              | ptr _ _ _ g o' e' =>
                refine ⟨.pointer (some ⟨g, o' + (o + n.toNat * sz), none⟩), exec_v ?_, fun _ => .ptr l b _ g o' e'⟩
                unfold Instr.indexAt
                simp only [Sem.run_bind, run_underlying ht, Result.andThen_ok, hu, hi, asIntOf, Sem.run_pure, Instr.sureAddr]
                simp only [h0.1, h0.2, and_self, if_true, run_sizeOf hs, Sem.run_bind, Result.andThen_ok, Sem.run_pure, Addr.add_lit, Nat.add_assoc]
            · cases hv
          | _ => rw [hxv] at hv; simp at hv
        | _ => rw [hiv] at hv; simp at hv
      · cases hc
    · cases hc
  | index t x ix =>
    by_cases hstr : ∃ s, x = .const (.string s)
    · obtain ⟨s, rfl⟩ := hstr
      simp only [compOp] at hc
      split at hc
      · rename_i i' ht h3
        simp only [Option.some.injEq] at hc
        subst hc
        simp only [evR] at hv
        split at hv
        · rename_i k n hiv
          split at hv
          · rename_i h0
            simp only [Option.map_eq_some_iff] at hv
            obtain ⟨q, hq, rfl⟩ := hv
            have hi := asInt_rep (rep_od hE h3 (rep_ne hiv (by simp))) hiv
            simp only [List.getElem?_map, Option.map_eq_some_iff] at hq
            obtain ⟨c, hcq, rfl⟩ := hq
            refine ⟨.int .u8 c.toNat, exec_v ?_, fun _ => .int _ _⟩
            unfold Instr.index
            have hs : s[n.toNat]? = some c := by
              rw [← hcq, Array.getElem?_toList]
              by_cases h : n.toNat < s.size
              · rw [getElem?_pos s _ h, getElem?_pos s.data _ h]; rfl
              · rw [getElem?_neg s _ h, getElem?_neg s.data _ h]
            have hcst : a.eval (.const (.string s)) = .string s := rfl
            simp only [Sem.run_bind, run_underlying ht, Result.andThen_ok, hi, asIntOf, Sem.run_pure, hcst, h0, if_true, hs]
          · cases hv
        · cases hv
      · cases hc
    have hc' : (match P.underlying t, compOd x, compOd ix with
      | some (.array n e), some x, some i => match tagg P e, tsize P e with
        | some g, some sz => some (Ins.idx g sz n x i)
        | _, _ => none
      | _, _, _ => none) = some i := by
      rw [← hc]
      cases x with
      | const v => cases v with
        | string s => exact absurd ⟨s, rfl⟩ hstr
        | _ => rfl
      | _ => rfl
    clear hc
    have hc := hc'
    split at hc
    · rename_i n' e x' i' ht h2 h3
      split at hc
      · rename_i g sz hg hs
        simp only [Option.some.injEq] at hc
        subst hc
        simp only [evR] at hv
        split at hv
        · rename_i cs k n hxv hiv
          split at hv
          · rename_i h0
            have hi := asInt_rep (rep_od hE h3 (rep_ne hiv (by simp))) hiv
            have hr := rep_od hE h2 (rep_ne hxv (by simp))
            rw [hxv] at hr
            generalize hu : a.eval x = u at hr
            cases hr with
            | agg _ vs q1 q2 q3 =>
              obtain ⟨r, h4, h5⟩ := read_part (P := P) hg hs ⟨q1, q2, q3⟩ (n.toNat * sz) hv
              refine ⟨r, exec_v ?_, fun _ => h5⟩
              unfold Instr.index
              simp only [Sem.run_bind, run_underlying ht, Result.andThen_ok, hu, hi, asIntOf, Sem.run_pure]
              simp only [h0.1, h0.2, and_self, if_true, run_sizeOf hs, Sem.run_bind, Result.andThen_ok, h4]
          · cases hv
        · cases hv
      · cases hc
    · cases hc
  | lookup t x i ok =>
    simp only [compOp] at hc
    split at hc
    · rename_i kt e ht
      split at hc
      · rename_i kk z x' i' hkt hz h2 h3
        simp only [Option.some.injEq] at hc
        subst hc
        simp only [evR] at hv
        cases hxv : x'.ev E with
        | mp l b =>
          have hr := rep_od hE h2 (rep_ne hxv (by simp))
          rw [hxv] at hv hr
          simp only at hv
          split at hv
          · rename_i es hb
            split at hv
            · cases hv
            · rename_i hodd
              cases hiv : i'.ev E with
              | int k n =>
                rw [hiv] at hv
                have hi := asInt_rep (rep_od hE h3 (rep_ne hiv (by simp))) hiv
                generalize hu : a.eval x = u at hr
                cases hr with
                | mp _ _ g o hmu =>
                  obtain ⟨g', o', hmu', ents, clock, hh, hlen, hents⟩ := m.at hb AB.map_live
                  rw [hmu] at hmu'
                  simp only [Option.some.injEq, Prod.mk.injEq] at hmu'
                  obtain ⟨rfl, rfl⟩ := hmu'
                  obtain ⟨zu, hz1, hz2⟩ := tzeroV_spec hz
                  have pre : ∀ (r : Option (Nat × Value)) (u : Value), Instr.findNow (.int kk) (.int k n) ents.toList 0 = some r → (u = match r with | some (_, v) => (if ok then .tuple #[v, .bool true] else v) | none => (if ok then .tuple #[zu, .bool false] else zu)) →
                      (Instr.lookup t (a.eval x) (a.eval i) ok).run P w = .ok u w := by
                    intro r u hf hu'
                    unfold Instr.lookup
                    simp only [Sem.run_bind, run_underlying ht, Result.andThen_ok, hu, hi]
                    have hg : (getObj g).run P w = .ok (.map ents clock) w := by simp [getObj, Sem.run, hh]
                    have hck := run_checkKey (P := P) (w := w) (intOfT_spec hkt) ents.isEmpty k n
                    simp only [hg, Result.andThen_ok]
                    unfold Instr.findKey
                    simp only [Sem.run_bind, run_underlying (intOfT_spec hkt), Result.andThen_ok, hf, Sem.run_pure]
                    subst hu'
                    cases r with
                    | none => cases ok <;> simp [run_zeroValue hz1, hck]
                    | some p => obtain ⟨_, pv⟩ := p; cases ok <;> simp [hck]
                  split at hv
                  · rename_i j vv hfk
                    simp only [Option.some.injEq] at hv
                    rcases findNow_findK (w := w) (O := O) (X := X) (μ := μ) (a := .int k n) (b := .un) rfl es ents.toList 0 _ (by simpa using hlen) (fun i x v e e1 e2 => hents i x v e e1 (by simpa using e2)) hfk with ⟨q, _⟩ | ⟨i1, v1, e1, q1, _, _, ⟨en, _, q5, q6, _⟩, _⟩
                    · cases q
                    · simp only [Option.some.injEq, Prod.mk.injEq] at q1
                      obtain ⟨rfl, rfl⟩ := q1
                      refine ⟨_, exec_v (pre _ _ (q5 kk) rfl), fun _ => ?_⟩
                      subst hv
                      cases ok
                      · exact q6
                      · exact .tup _ _ rfl (fun i x u e1 e2 _ => by
                          match i, e1, e2 with
                          | 0, e1, e2 => simp at e1 e2; subst e1 e2; exact q6
                          | 1, e1, e2 => simp at e1 e2; subst e1 e2; exact .bool _)
                  · rename_i hfk
                    simp only [Option.some.injEq] at hv
                    rcases findNow_findK (w := w) (O := O) (X := X) (μ := μ) (a := .int k n) (b := .un) rfl es ents.toList 0 _ (by simpa using hlen) (fun i x v e e1 e2 => hents i x v e e1 (by simpa using e2)) hfk with ⟨_, q⟩ | ⟨i1, v1, e1, q1, _⟩
                    · refine ⟨_, exec_v (pre _ _ (q kk) rfl), fun _ => ?_⟩
                      subst hv
                      cases ok
                      · exact (rep_ofVal hz2).1
                      · exact .tup _ _ rfl (fun i x u e1 e2 _ => by
                          match i, e1, e2 with
                          | 0, e1, e2 => simp at e1 e2; subst e1 e2; exact (rep_ofVal hz2).1
                          | 1, e1, e2 => simp at e1 e2; subst e1 e2; exact .bool _)
                    · cases q1
                  · cases hv
              | _ => rw [hiv] at hodd; simp [oddKey] at hodd
          · cases hv
        | _ => rw [hxv] at hv; simp at hv
      · cases hc
    · cases hc
  | mapUpdate t x k y =>
    simp only [compOp] at hc
    split at hc
    · split at hc
      · simp only [Option.some.injEq] at hc; subst hc; cases hk
      · cases hc
    · cases hc
  | insert t x k y =>
    simp only [compOp] at hc
    split at hc
    · split at hc
      · simp only [Option.some.injEq] at hc; subst hc; cases hk
      · cases hc
    · cases hc
  | extract x i =>
    simp only [compOp, Option.map_eq_some_iff] at hc
    obtain ⟨y, hy, rfl⟩ := hc
    simp only [evR] at hv
    cases hyv : y.ev E with
    | tup vs =>
      have hr := rep_od hE hy (rep_ne hyv (by simp))
      rw [hyv] at hv hr
      simp only at hv
      generalize hu : a.eval x = u at hr
      cases hr with
      | tup _ us h1 h2 =>
        have hlt : i < us.size := by rw [h1]; exact (List.getElem?_eq_some_iff.1 hv).1
        exact ⟨us[i], by simp [execOp, Instr.extract, hu, hlt], fun hn => h2 i v _ hv (Array.getElem?_eq_getElem hlt) hn⟩
    | _ => rw [hyv] at hv; simp at hv
  | call c =>
    simp only [compOp] at hc
    split at hc
    · rename_i as has
      split at hc
      · simp only [Option.some.injEq] at hc; subst hc; cases hk
      · simp only [Option.map_eq_some_iff] at hc; obtain ⟨y, _, rfl⟩ := hc; cases hk
      · rename_i b hb
        obtain ⟨u, h1, h2⟩ := reads_len (P := P) (ty := type) (cb := c.args.map fun | .const _ => true | _ => false) hE has hc hk hv
        refine ⟨u, ?_, h2⟩
        simp only [execOp, resolve, hb, Sem.run_bind, Sem.run_pure, Result.andThen_ok, invoke]
        rw [show (c.args.toList.map a.eval).toArray = c.args.map a.eval from by apply Array.ext'; rw [Array.toList_map], Array.toArray_toList] at h1
        exact h1
      · cases hc
    · cases hc
  | _ => simp [compOp] at hc

end
end Go.Ev
