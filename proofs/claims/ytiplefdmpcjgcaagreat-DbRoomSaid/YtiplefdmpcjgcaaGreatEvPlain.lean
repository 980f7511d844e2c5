/- '==' of plain types. -/
import Derived.Test.YtiplefdmpcjgcaaGreatEvOps
namespace Go.Ev
open Go Go.RowKit

section
variable {P : Program} {md : Nat → Md} {w : World} {O X : Nat → Prop} {μ : Mu} {H : List Lv} {L : Lv}

theorem info_of_size {t : TypeId} {s : Nat} (h : tsize P t = some s) : ∃ i, P.info? t = some i ∧ i.size = s := by
  simpa [tsize, Option.map_eq_some_iff] using h

theorem run_sizeOf {t : TypeId} {s : Nat} (h : tsize P t = some s) (w : World) : (sizeOf t).run P w = .ok s w := by
  obtain ⟨i, hi, rfl⟩ := info_of_size h
  simp [sizeOf, typeInfo, hi]

theorem run_isAgg {t : TypeId} {g : Bool} (h : tagg P t = some g) (w : World) : (isAgg t).run P w = .ok g w := by
  unfold tagg at h
  unfold isAgg
  split at h <;> simp only [Option.some.injEq, reduceCtorEq] at h <;> subst h
  · rename_i hu; simp [run_underlying hu]
  · rename_i hu; simp [run_underlying hu]
  · rename_i d h1 h2 hu
    simp only [Sem.run_bind, run_underlying hu, Result.andThen_ok]
    cases d <;> first | rfl | exact absurd hu (h1 _) | exact absurd hu (h2 _ _)

theorem part_agg {t : TypeId} {s : Nat} (hg : tagg P t = some true) (hs : tsize P t = some s) (vs : Array Value) (off : Nat) : (part t vs off).run P w = .ok (.agg (vs.extract off (off + s))) w := by
  unfold part
  simp [run_isAgg hg, run_sizeOf hs]
theorem part_one {t : TypeId} (hg : tagg P t = some false) (vs : Array Value) (off : Nat) (u : Value) (h : vs[off]? = some u) : (part t vs off).run P w = .ok u w := by
  unfold part
  simp [run_isAgg hg, h]

/-- A part of a value. -/
theorem read_part {t : TypeId} {g : Bool} {s : Nat} (hg : tagg P t = some g) (hs : tsize P t = some s) {cs : List AV} {vs : Array Value} (hr : RepL w O X μ cs vs) (off : Nat) {v : AV}
    (h : (if g then (if off + s ≤ cs.length then some (.agg ((cs.drop off).take s)) else none) else cs[off]?) = some v) : ∃ u, (part t vs off).run P w = .ok u w ∧ Rep w O X μ v u := by
  obtain ⟨h1, h2, h3⟩ := hr
  cases g with
  | true =>
    simp only [if_true] at h
    split at h
    · rename_i hl
      simp only [Option.some.injEq] at h
      subst h
      refine ⟨_, part_agg hg hs vs off, .agg _ _ (by simp; omega) (fun i a u ea eu => ?_) (fun i u eu => ?_)⟩
      · rw [List.getElem?_take] at ea
        split at ea
        · rw [List.getElem?_drop] at ea
          rw [Array.getElem?_extract] at eu
          split at eu
          · exact h2 _ a u ea (by rw [← eu])
          · cases eu
        · cases ea
      · rw [Array.getElem?_extract] at eu
        split at eu
        · exact h3 _ u eu
        · cases eu
    · cases h
  | false =>
    simp only [Bool.false_eq_true, if_false] at h
    have hlt : off < vs.size := by rw [h1]; exact (List.getElem?_eq_some_iff.1 h).1
    exact ⟨vs[off], part_one hg vs off _ (Array.getElem?_eq_getElem hlt), h2 off v _ h (Array.getElem?_eq_getElem hlt)⟩


theorem plainEq_int {k : IntKind} {q : List (Option IntKind)} {cs ds : List AV} {r : Bool} (h : plainEq (some k :: q) cs ds = some r) :
    ∃ a b cs' ds' z, cs = .int k a :: cs' ∧ ds = .int k b :: ds' ∧ plainEq q cs' ds' = some z ∧ r = (decide (a = b) && z) := by
  unfold plainEq at h
  split at h
  · rename_i heq; cases heq
  · rename_i k0 q0 k1 a r0 k2 b s0 heq
    split at h
    · rename_i hk
      cases heq
      simp only [Option.map_eq_some_iff] at h
      obtain ⟨z, hz, rfl⟩ := h
      obtain ⟨rfl, rfl⟩ := hk
      exact ⟨a, b, r0, s0, z, rfl, rfl, hz, rfl⟩
    · cases h
  · rename_i heq; cases heq
  · cases h

theorem plainEq_bool {q : List (Option IntKind)} {cs ds : List AV} {r : Bool} (h : plainEq (none :: q) cs ds = some r) :
    ∃ a b cs' ds' z, cs = .bool a :: cs' ∧ ds = .bool b :: ds' ∧ plainEq q cs' ds' = some z ∧ r = ((a == b) && z) := by
  unfold plainEq at h
  split at h
  · rename_i heq; cases heq
  · rename_i heq; cases heq
  · rename_i q0 a r0 b s0 heq
    cases heq
    simp only [Option.map_eq_some_iff] at h
    obtain ⟨z, hz, rfl⟩ := h
    exact ⟨a, b, r0, s0, z, rfl, rfl, hz, rfl⟩
  · cases h

theorem plainEq_nil {cs ds : List AV} {r : Bool} (h : plainEq [] cs ds = some r) : cs = [] ∧ ds = [] ∧ r = true := by
  unfold plainEq at h
  split at h
  · simp only [Option.some.injEq] at h; exact ⟨rfl, rfl, h.symm⟩
  · rename_i heq; cases heq
  · rename_i heq; cases heq
  · cases h

theorem plainEq_split : ∀ (k q : List (Option IntKind)) (cs ds : List AV) (r : Bool), plainEq (k ++ q) cs ds = some r → ∃ r1 r2, plainEq k (cs.take k.length) (ds.take k.length) = some r1 ∧ plainEq q (cs.drop k.length) (ds.drop k.length) = some r2 ∧ r = (r1 && r2)
  | [], q, cs, ds, r, h => ⟨true, r, by simp [plainEq], by simpa using h, by simp⟩
  | some k :: ks, q, cs, ds, r, h => by
    obtain ⟨x, y, cs', ds', z, rfl, rfl, hz, rfl⟩ := plainEq_int h
    obtain ⟨r1, r2, h1, h2, rfl⟩ := plainEq_split ks q cs' ds' z hz
    refine ⟨decide (x = y) && r1, r2, ?_, by simpa using h2, by rw [Bool.and_assoc]⟩
    simp only [List.length_cons, List.take_succ_cons, plainEq, and_self, if_true, h1, Option.map_some]
  | none :: ks, q, cs, ds, r, h => by
    obtain ⟨x, y, cs', ds', z, rfl, rfl, hz, rfl⟩ := plainEq_bool h
    obtain ⟨r1, r2, h1, h2, rfl⟩ := plainEq_split ks q cs' ds' z hz
    refine ⟨(x == y) && r1, r2, ?_, by simpa using h2, by rw [Bool.and_assoc]⟩
    simp only [List.length_cons, List.take_succ_cons, plainEq, h1, Option.map_some]

theorem plainEq_len : ∀ (ks : List (Option IntKind)) (cs ds : List AV) (r : Bool), plainEq ks cs ds = some r → cs.length = ks.length ∧ ds.length = ks.length
  | [], cs, ds, r, h => by obtain ⟨rfl, rfl, _⟩ := plainEq_nil h; exact ⟨rfl, rfl⟩
  | some k :: ks, cs, ds, r, h => by
    obtain ⟨x, y, cs', ds', z, rfl, rfl, hz, rfl⟩ := plainEq_int h
    have := plainEq_len ks cs' ds' z hz
    simp [this.1, this.2]
  | none :: ks, cs, ds, r, h => by
    obtain ⟨x, y, cs', ds', z, rfl, rfl, hz, rfl⟩ := plainEq_bool h
    have := plainEq_len ks cs' ds' z hz
    simp [this.1, this.2]

theorem plainFs_len {F : TypeId → Option (List (Option IntKind))} : ∀ (fs : List Field) (o n : Nat) (ks : List (Option IntKind)), plainFs F fs o n = some ks → o + ks.length = n
  | [], o, n, ks, h => by
    simp only [plainFs] at h
    split at h
    · simp only [Option.some.injEq] at h; subst h; simpa using ‹o = n›
    · cases h
  | f :: fs, o, n, ks, h => by
    simp only [plainFs] at h
    split at h
    · cases h
    · split at h
      · rename_i k hk
        simp only [Option.map_eq_some_iff] at h
        obtain ⟨q, hq, rfl⟩ := h
        have := plainFs_len fs _ n q hq
        simp; omega
      · cases h

theorem plainKs_size : ∀ (d : Nat) (t : TypeId) (ks : List (Option IntKind)), plainKs P d t = some ks → tsize P t = some ks.length ∧ ∃ g, tagg P t = some g
  | 0, t, ks, h => by cases h
  | d + 1, t, ks, h => by
    simp only [plainKs] at h
    split at h
    · rename_i hu hs
      split at h
      · rename_i hn; simp only [Option.some.injEq] at h; subst h; subst hn; exact ⟨hs, false, by simp [tagg, hu]⟩
      · cases h
    · rename_i hu hs
      split at h
      · rename_i hn; simp only [Option.some.injEq] at h; subst h; subst hn; exact ⟨hs, false, by simp [tagg, hu]⟩
      · cases h
    · rename_i hu hs
      split at h
      · cases h
      · have := plainFs_len _ 0 _ ks h
        refine ⟨?_, true, by simp [tagg, hu]⟩
        rw [hs]; congr 1; omega
    · cases h

theorem plainKs_one : ∀ (d : Nat) (t : TypeId) (ks : List (Option IntKind)), plainKs P d t = some ks → tagg P t = some false → ks.length = 1
  | 0, t, ks, h, _ => by cases h
  | d + 1, t, ks, h, hg => by
    simp only [plainKs] at h
    split at h
    · split at h
      · simp only [Option.some.injEq] at h; subst h; rfl
      · cases h
    · split at h
      · simp only [Option.some.injEq] at h; subst h; rfl
      · cases h
    · rename_i hu hs
      simp [tagg, hu] at hg
    · cases h

/-- '==' of two values of a plain type. -/
theorem plain_any : ∀ (d : Nat) (t : TypeId) (ks : List (Option IntKind)), plainKs P d t = some ks → ∀ (D : Nat), d ≤ D → ∀ (cs ds : List AV) (r : Bool), plainEq ks cs ds = some r →
    ∀ (g : Bool) (x y : Value), tagg P t = some g → (if g then ∃ vs us, x = .agg vs ∧ y = .agg us ∧ RepL w O X μ cs vs ∧ RepL w O X μ ds us else (∀ a, cs[0]? = some a → Rep w O X μ a x) ∧ ∀ a, ds[0]? = some a → Rep w O X μ a y) →
    (Op.equalIn D t x y).run P w = .ok r w := by
  intro d
  induction d with
  | zero => intro t ks h; cases h
  | succ d ih =>
    intro t ks ht D hD cs ds r he g x y hg hxy
    obtain ⟨D', rfl⟩ : ∃ D', D = D' + 1 := ⟨D - 1, by omega⟩
    simp only [plainKs] at ht
    split at ht
    · rename_i hu hs
      split at ht
      · simp only [Option.some.injEq] at ht
        subst ht
        simp only [tagg, hu, Option.some.injEq] at hg
        subst hg
        simp only [Bool.false_eq_true, if_false] at hxy
        obtain ⟨a, b, cs', ds', z, rfl, rfl, hz, rfl⟩ := plainEq_bool he
        obtain ⟨_, _, rfl⟩ := plainEq_nil hz
        have h1 := hxy.1 _ rfl
        have h2 := hxy.2 _ rfl
        cases h1; cases h2
        rw [Bool.and_true]
        exact run_equalIn_bool' w D' t _ _ hu
      · cases ht
    · rename_i k hu hs
      split at ht
      · simp only [Option.some.injEq] at ht
        subst ht
        simp only [tagg, hu, Option.some.injEq] at hg
        subst hg
        simp only [Bool.false_eq_true, if_false] at hxy
        obtain ⟨a, b, cs', ds', z, rfl, rfl, hz, rfl⟩ := plainEq_int he
        obtain ⟨_, _, rfl⟩ := plainEq_nil hz
        have h1 := hxy.1 _ rfl
        have h2 := hxy.2 _ rfl
        cases h1; cases h2
        rw [Bool.and_true, run_equalIn_int w D' t _ _ _ _ hu]
        congr 1
      · cases ht
    · rename_i fs n0 hu hs
      split at ht
      · cases ht
      · rename_i hst
        simp only [tagg, hu, Option.some.injEq] at hg
        subst hg
        simp only [if_true] at hxy
        obtain ⟨vs, us, rfl, rfl, hv, hus⟩ := hxy
        have hfo : P.fieldsOf t = fs := by simp [Program.fieldsOf, hu]
        rw [run_equalIn_struct w D' t vs us (by rw [hfo]; exact hu) (by simpa using hst), hfo]
        -- field by field
        have key : ∀ (l : List Field) (o n : Nat) (ks : List (Option IntKind)) (r : Bool), plainFs (plainKs P d) l o n = some ks → plainEq ks (cs.drop o) (ds.drop o) = some r → (Op.eqFields D' vs us l).run P w = .ok r w := by
          intro l
          induction l with
          | nil =>
            intro o n ks r h1 h2
            simp only [plainFs] at h1
            split at h1
            · simp only [Option.some.injEq] at h1
              subst h1
              have := (plainEq_len _ _ _ _ h2)
              have e1 : cs.drop o = [] := List.eq_nil_of_length_eq_zero this.1
              have e2 : ds.drop o = [] := List.eq_nil_of_length_eq_zero this.2
              rw [e1, e2] at h2
              simp only [plainEq, Option.some.injEq] at h2
              subst h2
              rfl
            · cases h1
          | cons f l ihl =>
            intro o n ks r h1 h2
            simp only [plainFs] at h1
            split at h1
            · cases h1
            · rename_i hname
              simp only [Bool.or_eq_true, beq_iff_eq, bne_iff_ne, ne_eq, not_or, Decidable.not_not] at hname
              obtain ⟨hnm, hoff⟩ := hname
              split at h1
              · rename_i k hk
                simp only [Option.map_eq_some_iff] at h1
                obtain ⟨q, hq, rfl⟩ := h1
                obtain ⟨r1, r2, h3, h4, rfl⟩ := plainEq_split k q _ _ r h2
                obtain ⟨hsz, gf, hgf⟩ := plainKs_size d f.type k hk
                have hl1 := (plainEq_len _ _ _ _ h3)
                have hp : ∀ (es : List AV) (ws : Array Value), RepL w O X μ es ws → ((es.drop o).take k.length).length = k.length → ∃ u, (part f.type ws f.offset).run P w = .ok u w ∧ (if gf then ∃ vv, u = .agg vv ∧ RepL w O X μ ((es.drop o).take k.length) vv else ∀ a, ((es.drop o).take k.length)[0]? = some a → Rep w O X μ a u) := by
                  intro es ws hr hlen
                  cases gf with
                  | true =>
                    simp only [if_true]
                    have hle : o + k.length ≤ es.length ∨ k.length = 0 := by simp at hlen; omega
                    refine ⟨_, part_agg hgf hsz ws f.offset, _, rfl, by simp [hr.1, hoff] at hlen ⊢; omega, fun i a u ea eu => ?_, fun i u eu => ?_⟩
                    · rw [List.getElem?_take] at ea
                      split at ea
                      · rw [List.getElem?_drop] at ea
                        rw [Array.getElem?_extract] at eu
                        split at eu
                        · exact hr.2.1 _ a u ea (by rw [← eu, hoff])
                        · cases eu
                      · cases ea
                    · rw [Array.getElem?_extract] at eu
                      split at eu
                      · exact hr.2.2 _ u eu
                      · cases eu
                  | false =>
                    simp only [Bool.false_eq_true, if_false]
                    have hk1 : k.length = 1 := plainKs_one d f.type k hk hgf
                    have hlt : f.offset < ws.size := by
                      rw [hr.1, hoff]
                      simp [hk1] at hlen
                      omega
                    refine ⟨ws[f.offset], part_one hgf ws f.offset _ (Array.getElem?_eq_getElem hlt), fun a ea => ?_⟩
                    rw [List.getElem?_take_of_lt (by omega), List.getElem?_drop, Nat.add_zero] at ea
                    exact hr.2.1 o a _ ea (by rw [← hoff]; exact Array.getElem?_eq_getElem hlt)
                obtain ⟨u1, p1, p2⟩ := hp cs vs hv hl1.1
                obtain ⟨u2, p3, p4⟩ := hp ds us hus hl1.2
                have hr1 : (Op.equalIn D' f.type u1 u2).run P w = .ok r1 w := by
                  refine ih f.type k hk D' (by omega) _ _ r1 h3 gf u1 u2 hgf ?_
                  cases gf with
                  | true =>
                    simp only [if_true] at p2 p4 ⊢
                    obtain ⟨a1, q1, q2⟩ := p2
                    obtain ⟨a2, q3, q4⟩ := p4
                    exact ⟨a1, a2, q1, q3, q2, q4⟩
                  | false =>
                    simp only [Bool.false_eq_true, if_false] at p2 p4 ⊢
                    exact ⟨p2, p4⟩
                have hrest := ihl (o + k.length) n q r2 hq (by rw [← List.drop_drop, ← List.drop_drop]; exact h4)
                simp only [Op.eqFields, if_pos hnm, Sem.run_bind, p1, p3, hr1, Result.andThen_ok]
                cases r1 with
                | true => simpa using hrest
                | false => simp
              · cases h1
        exact key fs.toList 0 _ ks r ht (by simpa using he)
    · cases ht

/-- '==' of plain types: all their cells. -/
theorem run_plain (t : TypeId) (cs ds : List AV) (vs us : Array Value) {ks : List (Option IntKind)} (h : eqk P t = .plain ks) (hv : RepL w O X μ cs vs) (hu : RepL w O X μ ds us) {b : Bool} (he : plainEq ks cs ds = some b) :
    (Op.equal t (.agg vs) (.agg us)).run P w = .ok b w ∧ ∀ op x y, (eqGuard op t x y (.agg vs) (.agg us)).run P w = .ok () w := by
  unfold eqk at h
  split at h
  · cases h
  · cases h
  · rename_i fs hund
    split at h
    · rename_i m hm
      split at h
      · cases h
      · rename_i hp
        simp only [EqK.plain.injEq] at h
        subst h
        refine ⟨?_, fun op x y => run_eqGuard_agg w op t x y vs us (by simpa using hp)⟩
        unfold Op.equal Op.maxDepth
        exact plain_any 8 t m hm 10000 (by omega) cs ds b he true _ _ (by simp [tagg, hund]) (by simp only [if_true]; exact ⟨vs, us, rfl, rfl, hv, hu⟩)
    · cases h
  · cases h

end
end Go.Ev
