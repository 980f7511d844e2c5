/- Operations that read alone, all of them. -/
import Derived.Test.YtiplefdmpcjgcaaGreatEvRead
namespace Go.Ev
open Go Go.RowKit

section
variable {P : Program} {md : Nat → Md} {w : World} {O X : Nat → Prop} {μ : Mu} {H : List Lv} {L : Lv}

/-- What an operation that reads does. -/
def Reads (P : Program) (w : World) (O X : Nat → Prop) (μ : Mu) (a : Act) (o : Oper) (v : AV) : Prop :=
  ∃ u, (execOp a.eval o).run P w = .ok (.value u) w ∧ (v ≠ .un → Rep w O X μ v u)

theorem un_dec (v : AV) : v = .un ∨ v ≠ .un := by
  cases v <;> first | exact .inl rfl | exact .inr (by simp)

theorem rep_ne {E : Tm} {x : Od} {v : AV} (h : x.ev E = v) (hv : v ≠ .un) : x.ev E ≠ .un := by rw [h]; exact hv

theorem run_mapM_fields (w : World) : ∀ (fs : List Field), fs.all (fun (f : Field) => (tsize P f.type).isSome) = true →
    ∃ l : List (Nat × Nat), (fs.mapM (m := Sem) fun (f : Field) => do pure (f.offset, ← sizeOf f.type)).run P w = .ok l w ∧ l.length = fs.length ∧ ∀ (i : Nat) (f : Field), fs[i]? = some f → ∃ s, tsize P f.type = some s ∧ l[i]? = some (f.offset, s)
  | [], _ => ⟨[], by simp, rfl, fun i f e => by simp at e⟩
  | f :: fs, h => by
    simp only [List.all_cons, Bool.and_eq_true] at h
    obtain ⟨s, hs⟩ := Option.isSome_iff_exists.1 h.1
    obtain ⟨l, h1, h2, h3⟩ := run_mapM_fields w fs h.2
    refine ⟨(f.offset, s) :: l, ?_, by simp [h2], fun i g e => ?_⟩
    · rw [List.mapM_cons]
      simp only [Sem.run_bind, run_sizeOf hs, Result.andThen_ok, Sem.run_pure, h1]
    · cases i with
      | zero => simp at e; subst e; exact ⟨s, hs, rfl⟩
      | succ i => exact h3 i g (by simpa using e)

theorem run_build {t : TypeId} {z : Value} {fs : Array Field} {ps : Array (Nat × Value)} {B : Array Value} (hz : (P.info? t).bind (·.zero) = some z) (hf : P.underlying t = some (.struct fs))
    (ha : fs.toList.all (fun (f : Field) => (tsize P f.type).isSome) = true)
    (hB : Instr.fill (fun (i : Nat) => (fs[i]?).bind fun (f : Field) => (tsize P f.type).map fun s => (f.offset, s)) z.cells ps.toList = some B) : (Instr.build t ps).run P w = .ok (.agg B) w := by
  obtain ⟨l, h1, h2, h3⟩ := run_mapM_fields (P := P) w fs.toList ha
  have hp : (fun (i : Nat) => (l.toArray[i]? : Option (Nat × Nat))) = fun (i : Nat) => (fs[i]?).bind fun (f : Field) => (tsize P f.type).map fun s => (f.offset, s) := by
    funext i
    cases hi : fs[i]? with
    | none =>
      have : l.length ≤ i := by rw [h2]; simpa using Array.getElem?_eq_none_iff.1 hi
      simp [this]
    | some f =>
      obtain ⟨s, k1, k2⟩ := h3 i f (by simpa using hi)
      simp [k1, k2]
  unfold Instr.build
  simp only [Sem.run_bind, run_zeroValue hz, Result.andThen_ok, run_underlying hf]
  rw [show (fs.mapM (m := Sem) fun (f : Field) => do pure (f.offset, ← sizeOf f.type)) = List.toArray <$> (fs.toList.mapM (m := Sem) fun (f : Field) => do pure (f.offset, ← sizeOf f.type)) from Array.mapM_eq_mapM_toList]
  simp only [Sem.run_map, h1, Result.andThen_ok]
  rw [hp, hB]
  rfl

theorem run_slice_gen {t e : TypeId} {sz : Nat} (ht : P.underlying t = some (.slice e)) (hs : tsize P e = some sz) (A : Option Addr) (len cap l h m : Nat) (lo hi mx : Option Value)
    (hlo : lo = none ∧ l = 0 ∨ ∃ k n, lo = some (.int k n) ∧ 0 ≤ n ∧ n.toNat = l)
    (hhi : hi = none ∧ h = len ∧ mx = none ∨ ∃ k n, hi = some (.int k n) ∧ 0 ≤ n ∧ n.toNat = h)
    (hmx : mx = none ∧ m = cap ∨ ∃ k n, mx = some (.int k n) ∧ 0 ≤ n ∧ n.toNat = m) (h1 : l ≤ h) (h2 : h ≤ m) (h3 : m ≤ cap) (_h4 : len ≤ cap) :
    (Instr.sliceAt t (.slice A len cap) lo hi mx).run P w = .ok (.slice (if m = l then A else A.map (·.add (l * sz))) (h - l) (m - l)) w := by
  have bound : ∀ (k : IntKind) (n : Int) (y : Nat) (c : BoundsCode), 0 ≤ n → n.toNat ≤ y → (Instr.sliceBound (.int k n) y c).run P w = .ok n.toNat w := fun k n y c h0 hy => by
    unfold Instr.sliceBound
    simp only [asIntOf, Sem.run_bind, Sem.run_pure, Result.andThen_ok]
    rw [if_pos ⟨h0, by omega⟩]
    rfl
  unfold Instr.sliceAt
  simp only [Sem.run_bind, run_underlying ht, Result.andThen_ok, Instr.slice]
  have hb : (Instr.sliceBounds true len cap lo hi mx).run P w = .ok (l, h, m) w := by
    unfold Instr.sliceBounds
    rcases hmx with ⟨rfl, rfl⟩ | ⟨km, nm, rfl, m1, m2⟩
    · rcases hhi with ⟨rfl, rfl, _⟩ | ⟨kh, nh, rfl, b1, b2⟩
      · rcases hlo with ⟨rfl, rfl⟩ | ⟨kl, nl, rfl, l1, l2⟩
        · simp
        · subst l2
          simp [bound kl nl h _ l1 h1]
      · subst b2
        rcases hlo with ⟨rfl, rfl⟩ | ⟨kl, nl, rfl, l1, l2⟩
        · simp [bound kh nh m _ b1 h2]
        · subst l2
          simp [bound kh nh m _ b1 h2, bound kl nl nh.toNat _ l1 h1]
    · rcases hhi with ⟨_, _, hh⟩ | ⟨kh, nh, rfl, b1, b2⟩
      · cases hh
      · subst m2
        subst b2
        rcases hlo with ⟨rfl, rfl⟩ | ⟨kl, nl, rfl, l1, l2⟩
        · simp [bound km nm cap _ m1 h3, bound kh nh nm.toNat _ b1 h2]
        · subst l2
          simp [bound km nm cap _ m1 h3, bound kh nh nm.toNat _ b1 h2, bound kl nl nh.toNat _ l1 h1]
  rw [hb]
  simp [run_sizeOf hs]

theorem rep_optInt {E : Tm} {a : Act} (hE : SimT w O X μ E a) {x : Option Operand} {y : Option Od} (hc : compOpt x = some y) {d n : Nat} (h : isNat (y.map (Od.ev E)) d = some n) :
    x.map a.eval = none ∧ n = d ∧ y = none ∨ ∃ k q, x.map a.eval = some (.int k q) ∧ 0 ≤ q ∧ q.toNat = n := by
  cases x with
  | none =>
    simp only [compOpt, Option.some.injEq] at hc
    subst hc
    simp only [Option.map_none, isNat, Option.some.injEq] at h
    exact .inl ⟨rfl, h.symm, rfl⟩
  | some x =>
    simp only [compOpt, Option.map_eq_some_iff] at hc
    obtain ⟨z, hz, rfl⟩ := hc
    simp only [Option.map_some] at h
    cases hv : z.ev E with
    | int k q =>
      rw [hv] at h
      simp only [isNat] at h
      split at h
      · rename_i h0
        simp only [Option.some.injEq] at h
        exact .inr ⟨k, q, by simp [asInt_rep (rep_od hE hz (by rw [hv]; simp)) hv], h0, h⟩
      · cases h
    | _ => rw [hv] at h; simp [isNat] at h

theorem get_of_all {xs : List (List AV)} {sz : Nat} (h : xs.all (fun c => decide (c.length = sz)) = true) : ∀ x ∈ xs, x.length = sz := fun x hx => by
  have := List.all_eq_true.1 h x hx
  simpa using this

/-- s[lo:hi:mx]. -/
theorem read_slice {E : Tm} {a : Act} (hE : SimT w O X μ E a) {t e : TypeId} {sz : Nat} (ht : P.underlying t = some (.slice e)) (hs : tsize P e = some sz) {x : Operand} {y : Od} (hx : compOd x = some y)
    {lo hi mx : Option Operand} {lo' hi' mx' : Option Od} (hlo : compOpt lo = some lo') (hhi : compOpt hi = some hi') (hmx : compOpt mx = some mx') {v : AV}
    (h : sliceV sz (y.ev E) (lo'.map (Od.ev E)) (hi'.map (Od.ev E)) (mx'.map (Od.ev E)) = some v) : ∃ u, (Instr.sliceAt t (a.eval x) (lo.map a.eval) (hi.map a.eval) (mx.map a.eval)).run P w = .ok u w ∧ Rep w O X μ v u := by
  cases hy : y.ev E with
  | sl m xs =>
    have hr := rep_od hE hx (rep_ne hy (by simp))
    rw [hy] at hr h
    simp only [sliceV] at h
    split at h
    · cases h
    · rename_i hall
      have hall' := get_of_all (sz := sz) (by simpa using hall)
      split at h
      · rename_i hh ll e1 e2
        have R : ∀ (mm : Nat) (fl : Bool) (len cap : Nat) (A : Option Addr), a.eval x = .slice A len cap → len = xs.length → ll ≤ hh → hh ≤ mm → mm ≤ cap → len ≤ cap → hh ≤ len → (fl = true → mm = hh) →
            Rep w O X μ (.sl ⟨m.z, m.b, fl⟩ ((xs.take hh).drop ll)) (.slice (if mm = ll then A else A.map (·.add (ll * sz))) (hh - ll) (mm - ll)) := by
          intro mm fl len cap A hA hlen g1 g2 g3 g4 g5 g6
          rw [hA] at hr
          cases hr with
          | sln _ hz =>
            have hh0 : hh = 0 := by simp at g5; omega
            have ll0 : ll = 0 := by omega
            have mm0 : mm = 0 := by omega
            subst hh0 ll0 mm0
            simpa using Rep.sln (w := w) (O := O) (X := X) (μ := μ) ⟨m.z, m.b, fl⟩ hz
          | sl _ _ A sz' c U hz hs' hx' hl hc hb hcell hrr hcln =>
            have hlen2 : ((xs.take hh).drop ll).length = hh - ll := by simp; omega
            rw [← hlen2]
            by_cases he : (xs.take hh).drop ll = []
            · rw [he]
              by_cases hml : mm = ll
              · rw [if_pos hml]
                exact .sl _ [] A sz' _ U hz hs' (by simp) (by simp) (fun q => by have := g6 q; simp; omega) (fun q => absurd rfl q) (fun j x e => by simp at e) (fun j x e => by simp at e) (fun _ x e => by simp at e)
              · rw [if_neg hml]
                exact .sl _ [] _ sz' _ U hz hs' (by simp) (by simp) (fun q => by have := g6 q; rw [he] at hlen2; simp at hlen2 ⊢; omega) (fun q => absurd rfl q) (fun j x e => by simp at e) (fun j x e => by simp at e) (fun _ x e => by simp at e)
            · have hne : xs ≠ [] := by rintro rfl; simp at he
              have hpos : ll < hh := by
                rcases Nat.lt_or_ge ll hh with h | h
                · exact h
                · exact absurd (by simp; omega) he
              have hsz : sz' = sz := by
                obtain ⟨y0, ys, rfl⟩ := List.exists_cons_of_ne_nil hne
                rw [← hx' y0 (by simp), hall' y0 (by simp)]
              subst hsz
              obtain ⟨hsp, hbb⟩ := hb hne
              have hAA : A = ⟨A.block, A.off, none⟩ := by cases A; simp_all
              rw [if_neg (by omega), Option.map_some, hAA, Addr.add_lit]
              refine .sl _ _ _ sz' _ (fun j i => U (ll + j) i) hz hs' (fun x hx => hx' x (List.mem_of_mem_take (List.mem_of_mem_drop hx))) (by rw [hlen2]; omega) (fun q => by have := g6 q; rw [hlen2]; omega) (fun _ => ⟨rfl, hbb⟩) (fun j x ej i b eb => ?_) (fun j x ej i b eb => ?_) (fun q x hx => hcln q x (List.mem_of_mem_take (List.mem_of_mem_drop hx)))
              · rw [List.getElem?_drop, List.getElem?_take] at ej
                split at ej
                · obtain ⟨q1, q2⟩ := hcell _ x ej i b eb
                  refine ⟨?_, q2⟩
                  rw [← q1]
                  congr 2
                  show A.off + ll * sz' + (j * sz' + i) = A.off + ((ll + j) * sz' + i)
                  rw [Nat.add_mul]; omega
                · cases ej
              · rw [List.getElem?_drop, List.getElem?_take] at ej
                split at ej
                · exact hrr _ x ej i b eb
                · cases ej
        obtain ⟨A, len, cap, hA, hlen, hlc⟩ : ∃ A len cap, a.eval x = .slice A len cap ∧ len = xs.length ∧ len ≤ cap := by
          generalize a.eval x = ua at hr
          cases hr with
          | sln => exact ⟨none, 0, 0, rfl, rfl, Nat.le_refl _⟩
          | sl _ _ A sz' c U hz hs' hx' hl => exact ⟨some A, _, c, rfl, rfl, hl⟩
        have o1 := rep_optInt hE hhi e1
        have o2 := rep_optInt hE hlo e2
        rw [hA]
        split at h
        · rename_i emx
          have hmn : mx.map a.eval = none := by
            cases mx with
            | none => rfl
            | some q => simp only [compOpt, Option.map_eq_some_iff] at hmx; obtain ⟨z, _, rfl⟩ := hmx; simp at emx
          split at h
          · rename_i hle
            simp only [Option.some.injEq] at h
            subst h
            by_cases hcc : (m.c && decide (hh = xs.length)) = true
            · refine ⟨_, run_slice_gen ht hs A len cap ll hh cap _ _ _ (o2.imp (fun q => ⟨q.1, q.2.1⟩) id) (o1.imp (fun q => ⟨q.1, q.2.1.trans hlen.symm, hmn⟩) id) (.inl ⟨hmn, rfl⟩) hle.1 (by omega) (Nat.le_refl _) hlc, ?_⟩
              refine R cap _ len cap A hA hlen hle.1 (by omega) (Nat.le_refl _) hlc (by omega) (fun _ => ?_)
              simp only [Bool.and_eq_true, decide_eq_true_eq] at hcc
              rw [hA] at hr
              cases hr with
              | sln => exact hcc.2.symm
              | sl _ _ A sz' c U hz hs' hx' hl hc => rw [hc hcc.1]; exact hcc.2.symm
            · refine ⟨_, run_slice_gen ht hs A len cap ll hh cap _ _ _ (o2.imp (fun q => ⟨q.1, q.2.1⟩) id) (o1.imp (fun q => ⟨q.1, q.2.1.trans hlen.symm, hmn⟩) id) (.inl ⟨hmn, rfl⟩) hle.1 (by omega) (Nat.le_refl _) hlc, ?_⟩
              exact R cap _ len cap A hA hlen hle.1 (by omega) (Nat.le_refl _) hlc (by omega) (fun q => absurd q hcc)
          · cases h
        · rename_i mv emx
          split at h
          · rename_i hv k ehi ek
            split at h
            · rename_i hle
              simp only [Option.some.injEq] at h
              subst h
              have o3 : ∃ kk q, mx.map a.eval = some (.int kk q) ∧ 0 ≤ q ∧ q.toNat = k := by
                rcases rep_optInt hE hmx (d := 0) (n := k) (by rw [emx]; exact ek) with ⟨_, _, q3⟩ | q
                · rw [q3] at emx; cases emx
                · exact q
              have o1' : ∃ kk q, hi.map a.eval = some (.int kk q) ∧ 0 ≤ q ∧ q.toNat = hh := by
                rcases o1 with q | q
                · rw [q.2.2] at ehi; cases ehi
                · exact q
              refine ⟨_, run_slice_gen ht hs A len cap ll hh k _ _ _ (o2.imp (fun q => ⟨q.1, q.2.1⟩) id) (.inr o1') (.inr o3) hle.1 hle.2.1 (by omega) hlc, ?_⟩
              exact R k _ len cap A hA hlen hle.1 hle.2.1 (by omega) hlc (by omega) (fun q => (of_decide_eq_true q).symm)
            · cases h
          · cases h
      · cases h
  | own lv b i n s cl =>
    have hr := rep_od hE hx (rep_ne hy (by simp))
    rw [hy] at hr h
    simp only [sliceV] at h
    generalize hua : a.eval x = ua at hr
    cases hr with
    | own _ _ _ _ _ _ g o c A hmu hsp hn hA hcl hsh =>
    split at h
    · rename_i hh ll e1 e2
      have o1 := rep_optInt hE hhi e1
      have o2 := rep_optInt hE hlo e2
      have R : ∀ (mm : Nat) (fl : Bool), s = sz → ll ≤ hh → hh ≤ mm → mm ≤ c → hh ≤ n → (fl = true → mm = hh) → (fl = false → cl = false ∧ mm = c) →
            Rep w O X μ (.own lv b (i + ll * s) (hh - ll) s fl) (.slice (if mm = ll then some A else (some A).map (·.add (ll * sz))) (hh - ll) (mm - ll)) := by
        intro mm fl hss g2 g3 g4 g5 g6 g7
        subst hss
        have key : ∀ A' : Addr, (mm - ll ≠ 0 → A' = ⟨g, o + (i + ll * s), none⟩) → Rep w O X μ (.own lv b (i + ll * s) (hh - ll) s fl) (.slice (some A') (hh - ll) (mm - ll)) := fun A' hA' =>
          .own lv b _ _ s fl g o _ A' hmu hsp (by omega) hA' (fun q => by have := g6 q; omega) (fun q => by
            obtain ⟨g8, rfl⟩ := g7 q
            obtain ⟨ty, hty⟩ := hsh g8
            refine ⟨ty, hty.trans ?_⟩
            congr 2
            have : mm * s = ll * s + (mm - ll) * s := by rw [← Nat.add_mul]; congr 1; omega
            omega)
        by_cases hml : mm = ll
        · rw [if_pos hml]
          exact key A (fun q => absurd (by omega) q)
        · rw [if_neg hml, Option.map_some]
          refine key _ (fun q => ?_)
          rw [hA (by omega), Addr.add_lit]
          congr 1
          omega
      split at h
      · rename_i emx
        have hmn : mx.map a.eval = none := by
          cases mx with
          | none => rfl
          | some q => simp only [compOpt, Option.map_eq_some_iff] at hmx; obtain ⟨z, _, rfl⟩ := hmx; simp at emx
        split at h
        · rename_i hle
          simp only [Option.some.injEq] at h
          subst h
          refine ⟨_, run_slice_gen ht hs (some A) n c ll hh c _ _ _ (o2.imp (fun q => ⟨q.1, q.2.1⟩) id) (o1.imp (fun q => ⟨q.1, q.2.1, hmn⟩) id) (.inl ⟨hmn, rfl⟩) hle.2.1 (by omega) (Nat.le_refl _) hn, ?_⟩
          refine R c cl hle.1 hle.2.1 (by omega) (Nat.le_refl _) hle.2.2.1 (fun q => ?_) (fun q => ⟨q, rfl⟩)
          rcases hle.2.2.2 with q' | q'
          · rw [q] at q'; cases q'
          · rw [hcl q, q']
        · cases h
      · rename_i mv emx
        split at h
        · rename_i hv k ehi ek
          split at h
          · rename_i hle
            simp only [Option.some.injEq] at h
            subst h
            have o3 : ∃ kk q, mx.map a.eval = some (.int kk q) ∧ 0 ≤ q ∧ q.toNat = k := by
              rcases rep_optInt hE hmx (d := 0) (n := k) (by rw [emx]; exact ek) with ⟨_, _, q3⟩ | q
              · rw [q3] at emx; cases emx
              · exact q
            have o1' : ∃ kk q, hi.map a.eval = some (.int kk q) ∧ 0 ≤ q ∧ q.toNat = hh := by
              rcases o1 with q | q
              · rw [q.2.2] at ehi; cases ehi
              · exact q
            refine ⟨_, run_slice_gen ht hs (some A) n c ll hh k _ _ _ (o2.imp (fun q => ⟨q.1, q.2.1⟩) id) (.inr o1') (.inr o3) hle.2.1 (by omega) (by omega) hn, ?_⟩
            exact R k true hle.1 hle.2.1 (by omega) (by omega) (by omega) (fun _ => hle.2.2.1.symm) (fun q => by cases q)
          · cases h
        · cases h
    · cases h
  | _ => rw [hy] at h; simp only [sliceV, reduceCtorEq] at h

end
end Go.Ev
