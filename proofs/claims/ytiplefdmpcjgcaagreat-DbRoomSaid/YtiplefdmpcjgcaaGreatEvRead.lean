/- Operations that read alone: what the evaluator says of them, the machine does. -/
import Derived.Test.YtiplefdmpcjgcaaGreatEvPlain
namespace Go.Ev
open Go Go.RowKit

section
variable {P : Program} {md : Nat → Md} {w : World} {O X : Nat → Prop} {μ : Mu} {H : List Lv} {L : Lv}

theorem run_zeroValue {t : TypeId} {z : Value} (h : (P.info? t).bind (·.zero) = some z) (w : World) : (zeroValue t).run P w = .ok z w := by
  obtain ⟨i, hi, hz⟩ := Option.bind_eq_some_iff.1 h
  simp [zeroValue, typeInfo, hi, hz]

/-- A variable is loaded. -/
theorem run_loadVar {t : TypeId} {g : Bool} {s : Nat} (hg : tagg P t = some g) (hs : tsize P t = some s) {A : Addr} {cs : List AV} (hc : CellsAt w O X μ cs A) {v : AV}
    (hv : (if g then (if s ≤ cs.length then some (.agg (cs.take s)) else none) else cs[0]?) = some v) : ∃ u, (loadVar t A).run P w = .ok u w ∧ Rep w O X μ v u := by
  unfold loadVar
  simp only [Sem.run_bind, run_isAgg hg, Result.andThen_ok]
  cases g with
  | true =>
    simp only [if_true] at hv ⊢
    split at hv
    · simp only [Option.some.injEq] at hv
      subst hv
      obtain ⟨us, k1, k2, k3, k4⟩ := (hc.take s).values
      have hl : us.length = s := by rw [k1]; simp; omega
      have hr := run_loadCells_list (P := P) (w := w) A us k2
      rw [hl] at hr
      refine ⟨.agg us.toArray, ?_, .agg _ _ (by simp [k1]) (fun i a u e1 e2 => k4 i a u e1 (by simpa using e2)) (fun i u e => k3 u (List.mem_of_getElem? (by simpa using e)))⟩
      simp [run_sizeOf hs, hr]
    · cases hv
  | false =>
    simp only [Bool.false_eq_true, if_false] at hv ⊢
    obtain ⟨h1, u, h2, h3, h4⟩ := hc 0 v hv
    refine ⟨u, ?_, h4⟩
    have hA : w.cell? A = some u := by rw [← h2]; cases A; simp_all
    simp [run_load, hA]

theorem run_intCmp {op : BinOp} {k : IntKind} {t : TypeId} {a b : Int} {r : Bool} (h : cmpI op a b = some r) : (binOp op t (.int k a) (.int k b)).run P w = .ok (.bool r) w := by
  cases op <;> simp only [cmpI, Option.some.injEq, reduceCtorEq] at h <;> subst h <;> simp [binOp, Op.intCmp]
  all_goals first
    | rfl
    | (simp [bne]; done)
    | (by_cases e : a = b <;> simp [e])

theorem asInt_rep {v : AV} {u : Value} {n : Int} {k : IntKind} (h : Rep w O X μ v u) (e : v = .int k n) : u = .int k n := by
  subst e
  cases h
  rfl
theorem asBool_rep {v : AV} {u : Value} {b : Bool} (h : Rep w O X μ v u) (e : v = .bool b) : u = .bool b := by
  subst e
  cases h
  rfl

theorem run_eqGuard_int (op : BinOp) (t : TypeId) (x y : Operand) (k k' : IntKind) (a b : Int) : (eqGuard op t x y (.int k a) (.int k' b)).run P w = .ok () w := by
  unfold eqGuard
  split <;> rfl
theorem run_eqGuard_bool (op : BinOp) (t : TypeId) (x y : Operand) (a b : Bool) : (eqGuard op t x y (.bool a) (.bool b)).run P w = .ok () w := by
  unfold eqGuard
  split <;> rfl
theorem run_eqGuard_slice (op : BinOp) (t : TypeId) (x y : Operand) (a b : Option Addr) (n c n' c' : Nat) : (eqGuard op t x y (.slice a n c) (.slice b n' c')).run P w = .ok () w := by
  unfold eqGuard
  split <;> rfl

theorem run_binI {op : BinOp} {k k' : IntKind} {a b : Int} {q : EqK} {v : AV} (t : TypeId) (h : binV op q (.int k a) (.int k' b) = some v) :
    ∃ u, (binOp op t (.int k a) (.int k' b)).run P w = .ok u w ∧ Rep w O X μ v u := by
  cases op <;> simp only [binV] at h
  case shl =>
    simp only [shI] at h
    split at h
    · cases h
    · rename_i hb; simp only [Option.some.injEq] at h; subst h
      refine ⟨_, ?_, .int _ _⟩
      simp [binOp, Op.shift, hb]
  case shr =>
    simp only [shI] at h
    split at h
    · cases h
    · rename_i hb; simp only [Option.some.injEq] at h; subst h
      refine ⟨_, ?_, .int _ _⟩
      simp [binOp, Op.shift, hb]
  all_goals
    split at h
    case isFalse => cases h
    rename_i hk
    subst hk
  case eql => simp only [Option.some.injEq] at h; subst h; exact ⟨_, run_intCmp rfl, .bool _⟩
  case neq => simp only [Option.some.injEq] at h; subst h; exact ⟨_, run_intCmp rfl, .bool _⟩
  case lss => simp only [Option.some.injEq] at h; subst h; exact ⟨_, run_intCmp rfl, .bool _⟩
  case leq => simp only [Option.some.injEq] at h; subst h; exact ⟨_, run_intCmp rfl, .bool _⟩
  case gtr => simp only [Option.some.injEq] at h; subst h; exact ⟨_, run_intCmp rfl, .bool _⟩
  case geq => simp only [Option.some.injEq] at h; subst h; exact ⟨_, run_intCmp rfl, .bool _⟩
  case add => simp only [Option.some.injEq] at h; subst h; refine ⟨_, ?_, .int _ _⟩; simp [binOp, Op.intArith]
  case sub => simp only [Option.some.injEq] at h; subst h; refine ⟨_, ?_, .int _ _⟩; simp [binOp, Op.intArith]
  case mul => simp only [Option.some.injEq] at h; subst h; refine ⟨_, ?_, .int _ _⟩; simp [binOp, Op.intArith]
  case quo =>
    simp only [arI] at h
    split at h
    · cases h
    · rename_i hb; simp only [Option.some.injEq] at h; subst h; refine ⟨_, ?_, .int _ _⟩; simp [binOp, Op.intDiv, hb]
  case rem =>
    simp only [arI] at h
    split at h
    · cases h
    · rename_i hb; simp only [Option.some.injEq] at h; subst h; refine ⟨_, ?_, .int _ _⟩; simp [binOp, Op.intDiv, hb]
  all_goals
    simp only [arI, Option.some.injEq] at h
    subst h
    refine ⟨_, ?_, .int _ _⟩
    simp [binOp, Op.intBits]

theorem run_equal_bool {t : TypeId} (ht : P.underlying t = some .bool) (a b : Bool) : (Op.equal t (.bool a) (.bool b)).run P w = .ok (a == b) w := by
  unfold Op.equal Op.maxDepth
  rw [show (10000 : Nat) = 9999 + 1 from rfl, Op.equalIn]
  simp only [Sem.run_bind, run_underlying ht, Result.andThen_ok]
  rfl
theorem run_equal_slice {t e : TypeId} (ht : P.underlying t = some (.slice e)) (a : Option Addr) (n c : Nat) : (Op.equal t (.slice a n c) (.slice none 0 0)).run P w = .ok a.isNone w := by
  unfold Op.equal Op.maxDepth
  rw [show (10000 : Nat) = 9999 + 1 from rfl, Op.equalIn]
  simp only [Sem.run_bind, run_underlying ht, Result.andThen_ok]
  cases a <;> rfl

theorem binV_other (op : BinOp) (q : EqK) (x y : AV) (hx : ∀ k n, x ≠ .int k n) : binV op q x y = match op with
    | .eql => (eqV q x y).map .bool
    | .neq => (eqV q x y).map fun r => .bool (!r)
    | _ => none := by
  cases op <;> cases x <;> first | rfl | exact absurd rfl (hx _ _)

theorem run_binV {op : BinOp} {q : EqK} {x y v : AV} {a b : Value} (t : TypeId) (hq : q = eqk P t) (hx : Rep w O X μ x a) (hy : Rep w O X μ y b) (h : binV op q x y = some v) :
    ∃ u, (∀ ox oy, (eqGuard op t ox oy a b).run P w = .ok () w) ∧ (binOp op t a b).run P w = .ok u w ∧ Rep w O X μ v u := by
  by_cases hi : ∃ k n, x = .int k n
  · obtain ⟨k, n, rfl⟩ := hi
    by_cases hj : ∃ k n, y = .int k n
    · obtain ⟨k', n', rfl⟩ := hj
      cases hx; cases hy
      obtain ⟨u, h1, h2⟩ := run_binI (P := P) (w := w) (O := O) (X := X) (μ := μ) t h
      exact ⟨u, fun _ _ => run_eqGuard_int .., h1, h2⟩
    · exfalso
      cases op <;> cases y <;> simp_all [binV, eqV]
  · have hop : ∃ r, eqV q x y = some r ∧ (op = .eql ∧ v = .bool r ∨ op = .neq ∧ v = .bool !r) := by
      rw [binV_other op q x y (fun k n e => hi ⟨k, n, e⟩)] at h
      cases op <;> simp only [Option.map_eq_some_iff, reduceCtorEq] at h
      · obtain ⟨r, h1, h2⟩ := h
        exact ⟨r, h1, .inl ⟨rfl, h2.symm⟩⟩
      · obtain ⟨r, h1, h2⟩ := h
        exact ⟨r, h1, .inr ⟨rfl, h2.symm⟩⟩
    obtain ⟨r, hr, hv⟩ := hop
    have key : (∀ ox oy, (eqGuard op t ox oy a b).run P w = .ok () w) ∧ (Op.equal t a b).run P w = .ok r w ∧ (∀ k n, a ≠ .int k n) ∧ (∀ k n, a ≠ .float k n) ∧ (∀ k n m, a ≠ .complex k n m) ∧ (∀ s, a ≠ .string s) := by
      unfold eqV at hr
      split at hr
      · cases hx; cases hy
        simp only [Option.some.injEq] at hr
        subst hr
        have ht : P.underlying t = some .bool := by
          unfold eqk at hq
          (repeat' split at hq) <;> first | assumption | cases hq
        exact ⟨fun _ _ => run_eqGuard_bool .., run_equal_bool ht _ _, by simp, by simp, by simp, by simp⟩
      · rename_i m xs n
        split at hr
        · rename_i hz
          simp only [Option.some.injEq] at hr
          subst hr
          have ht : ∃ e, P.underlying t = some (.slice e) := by
            unfold eqk at hq
            (repeat' split at hq) <;> first | exact ⟨_, by assumption⟩ | cases hq
          obtain ⟨e, ht⟩ := ht
          cases hy with
          | sln _ _ =>
            cases hx with
            | sln _ hm => exact ⟨fun _ _ => run_eqGuard_slice .., by rw [run_equal_slice ht, hm]; rfl, by simp, by simp, by simp, by simp⟩
            | sl _ _ A sz c U hm => exact ⟨fun _ _ => run_eqGuard_slice .., by rw [run_equal_slice ht, hm]; rfl, by simp, by simp, by simp, by simp⟩
          | sl _ _ A sz c U hm => rw [hz] at hm; cases hm
        · cases hr
      · split at hr
        · rename_i hz
          simp only [Option.some.injEq] at hr
          subst hr
          have ht : ∃ e, P.underlying t = some (.slice e) := by
            unfold eqk at hq
            (repeat' split at hq) <;> first | exact ⟨_, by assumption⟩ | cases hq
          obtain ⟨e, ht⟩ := ht
          cases hy with
          | sln _ _ =>
            cases hx with
            | own => exact ⟨fun _ _ => run_eqGuard_slice .., by rw [run_equal_slice ht]; rfl, by simp, by simp, by simp, by simp⟩
          | sl _ _ A sz c U hm => rw [hz] at hm; cases hm
        · cases hr
      · rename_i cs ds
        cases hx with
        | agg _ vs h1 h2 h3 =>
          cases hy with
          | agg _ us h4 h5 h6 =>
            obtain ⟨k1, k2⟩ := run_plain (P := P) (w := w) t cs ds vs us hq.symm ⟨h1, h2, h3⟩ ⟨h4, h5, h6⟩ hr
            exact ⟨fun _ _ => k2 _ _ _, k1, by simp, by simp, by simp, by simp⟩
      · cases hr
    obtain ⟨k1, k2, k3, k4, k5, k6⟩ := key
    rcases hv with ⟨rfl, rfl⟩ | ⟨rfl, rfl⟩
    · refine ⟨.bool r, k1, ?_, .bool _⟩
      unfold binOp
      split <;> first | (exfalso; simp_all; done) | (simp [k2]; done)
    · refine ⟨.bool !r, k1, ?_, .bool _⟩
      unfold binOp
      split <;> first | (exfalso; simp_all; done) | (simp [k2]; done)

end
end Go.Ev
