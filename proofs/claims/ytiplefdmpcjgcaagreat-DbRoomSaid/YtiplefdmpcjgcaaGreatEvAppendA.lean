/- append; all that writes. -/
import Derived.Test.YtiplefdmpcjgcaaGreatEvAppend
namespace Go.Ev
open Go Go.RowKit

section
variable {P : Program} {md : Nat → Md} {w : World} {O X : Nat → Prop} {μ : Mu} {H : List Lv} {L : Lv}

/-- An append at a row's end, in its room. -/
theorem append_here (m : Mem P md w O X μ H L) {b g o i : Nat} {cs vs zs : List AV} {us : List Value} {arr : Array Value} {ty : TypeId} (hb : L[b]? = some (.cells cs)) (hmu : μ H.length b = some (g, o))
    (hg : w.heap[g]? = some (.cells arr ty (0, 0))) (hcs : ∀ (j : Nat) (a : AV), cs[j]? = some a → ∃ u : Value, arr[o + j]? = some u ∧ u.oneCell' = true ∧ Rep w O X μ a u)
    (hv : us.length = vs.length ∧ (∀ (i : Nat) (a : AV) (u : Value), vs[i]? = some a → us[i]? = some u → Rep w O X μ a u) ∧ (∀ (i : Nat) (u : Value), us[i]? = some u → u.oneCell' = true))
    (hz : zs = cs.drop i) (hi : i ≤ cs.length) (hfit : o + cs.length + vs.length ≤ arr.size) {sz n c : Nat} (hsz : 0 < sz) (hn : n ≤ c) (hcap : o + i + c * sz = arr.size) :
    (storeCells ⟨g, o + cs.length, none⟩ us).run P w = .ok () (w.setRow g (arr.toList.take (o + cs.length) ++ us ++ arr.toList.drop (o + cs.length + us.length)).toArray) ∧
    ∃ μ', Ext w O X μ (w.setRow g (arr.toList.take (o + cs.length) ++ us ++ arr.toList.drop (o + cs.length + us.length)).toArray) O X μ' ∧
      Mem P md (w.setRow g (arr.toList.take (o + cs.length) ++ us ++ arr.toList.drop (o + cs.length + us.length)).toArray) O X μ' H (L.set b .dead ++ [.cells (zs ++ vs)]) ∧
      Rep (w.setRow g (arr.toList.take (o + cs.length) ++ us ++ arr.toList.drop (o + cs.length + us.length)).toArray) O X μ' (.own H.length L.length 0 n sz false) (.slice (some ⟨g, o + i, none⟩) n c) := by
  obtain ⟨v1, v2, v3⟩ := hv
  have hst := run_storeCells_at P g (o + cs.length) ty us 0 arr w hg (by omega) (fun v hv => by obtain ⟨j, hj⟩ := List.getElem?_of_mem hv; exact v3 j v hj)
  simp only [Nat.add_zero] at hst
  have hsize : (arr.toList.take (o + cs.length) ++ us ++ arr.toList.drop (o + cs.length + us.length)).toArray.size = arr.size := by simp; omega
  obtain ⟨g', o', q1, hXg, _⟩ := m.cur b _ hb AB.cells_live
  rw [hmu] at q1
  simp only [Option.some.injEq, Prod.mk.injEq] at q1
  obtain ⟨rfl, rfl⟩ := q1
  generalize harr : (arr.toList.take (o + cs.length) ++ us ++ arr.toList.drop (o + cs.length + us.length)).toArray = arr' at *
  have he0 := ext_row (O := O) (μ := μ) hg hsize hXg
  have hfree := m.dom L.length (Nat.le_refl _)
  have he : Ext w O X μ (w.setRow g arr') O X (addMu μ H.length L.length (g, o + i)) := { he0 with
    mu := addMu_le hfree
    mu' := fun l' b' p h k => by
      unfold addMu at h
      split at h
      · simp only [Option.some.injEq] at h; subst h; exact hXg
      · rw [k] at h; cases h }
  have hbl : b < L.length := (List.getElem?_eq_some_iff.1 hb).1
  have hget : ∀ (j : Nat) (x : AB), (L.set b .dead ++ [.cells (zs ++ vs)])[j]? = some x → x.live → j = L.length ∧ x = .cells (zs ++ vs) ∨ j ≠ L.length ∧ j ≠ b ∧ L[j]? = some x := by
    intro j x ex hl
    rw [List.getElem?_append] at ex
    split at ex
    · rename_i hj
      rcases getElem?_set_of ex with ⟨_, rfl⟩ | ⟨k1, k2⟩
      · exact hl.elim
      · exact .inr ⟨by simp at hj; omega, k1, k2⟩
    · rename_i hj
      have hj2 : j - (L.set b AB.dead).length = 0 := by have := (List.getElem?_eq_some_iff.1 ex).1; simpa using this
      rw [hj2] at ex
      simp at ex hj hj2
      exact .inl ⟨by omega, ex.symm⟩
  have hold : ∀ (j k p : Nat), j ≠ L.length → addMu μ H.length L.length (g, o + i) H.length j = some (k, p) → μ H.length j = some (k, p) := by
    intro j k p hj h
    unfold addMu at h
    rw [if_neg (by rintro ⟨_, q⟩; exact hj q)] at h
    exact h
  have hne : ∀ (j : Nat) (x : AB) (k p : Nat), L[j]? = some x → x.live → j ≠ b → μ H.length j = some (k, p) → k ≠ g := by
    intro j x k p ej hl hjb hk q
    subst q
    exact hjb (m.inj j b x _ k p o ej hl hb AB.cells_live hk hmu)
  refine ⟨hst, _, he, m.step he m.xo (fun k hk => by have := m.ol k hk; simpa using this) (fun j hj => ?_) (fun l j hl => ?_) (fun j x ex hl => ?_) (fun j k x y p q r e1 l1 e2 l2 h1 h2 => ?_), ?_⟩
  · simp at hj
    unfold addMu
    rw [if_neg (by rintro ⟨_, q⟩; omega)]
    exact m.dom j (by omega)
  · unfold addMu
    rw [if_neg (by rintro ⟨q, _⟩; omega)]
    exact m.dom2 l j hl
  · rcases hget j x ex hl with ⟨rfl, rfl⟩ | ⟨h1, h2, h3⟩
    · refine .inr ⟨g, o + i, addMu_same _ _ _ _, hXg, arr', ty, setRow_heap w g arr _ ty _ hg, by rw [hsize, hz]; simp; omega, fun j a ea => ?_⟩
      subst hz
      have hcl : (cs.drop i).length = cs.length - i := by simp
      by_cases hj : j < cs.length - i
      · rw [List.getElem?_append_left (by omega), List.getElem?_drop] at ea
        obtain ⟨u, k1, k2, k3⟩ := hcs _ a ea
        refine ⟨u, ?_, k2, k3.ext m.xo he⟩
        rw [← harr, List.getElem?_toArray, List.append_assoc, List.getElem?_append_left (by simp; omega), List.getElem?_take_of_lt (by omega), Nat.add_assoc]
        simpa using k1
      · rw [List.getElem?_append_right (by omega)] at ea
        have hjl : j - (cs.length - i) < us.length := by rw [v1, ← hcl]; exact (List.getElem?_eq_some_iff.1 ea).1
        rw [hcl] at ea
        refine ⟨us[j - (cs.length - i)], ?_, v3 _ _ (List.getElem?_eq_getElem hjl), (v2 _ a _ ea (List.getElem?_eq_getElem hjl)).ext m.xo he⟩
        rw [← harr, List.getElem?_toArray, List.getElem?_append_left (by simp; omega), List.getElem?_append_right (by simp; omega), ← List.getElem?_eq_getElem hjl]
        congr 1
        simp
        omega
    · refine .inl ⟨h3, fun k p hk => setRow_other w g k _ (hne j x k p h3 hl h2 hk)⟩
  · rcases hget j x e1 l1 with ⟨rfl, _⟩ | ⟨h3, h4, h5⟩
    · rcases hget k y e2 l2 with ⟨rfl, _⟩ | ⟨h6, h7, h8⟩
      · rfl
      · rw [addMu_same] at h1
        simp only [Option.some.injEq, Prod.mk.injEq] at h1
        exact absurd h1.1.symm (hne k y p r h8 l2 h7 (hold k p r h6 h2))
    · rcases hget k y e2 l2 with ⟨rfl, _⟩ | ⟨h6, h7, h8⟩
      · rw [addMu_same] at h2
        simp only [Option.some.injEq, Prod.mk.injEq] at h2
        exact absurd h2.1.symm (hne j x p q h5 l1 h4 (hold j p q h3 h1))
      · exact m.inj j k x y p q r h5 l1 h8 l2 (hold j p q h3 h1) (hold k p r h6 h2)
  · exact .own _ _ 0 n sz false g (o + i) c _ (addMu_same _ _ _ _) hsz hn (fun _ => rfl) (fun q => by cases q) (fun _ => ⟨ty, by simp only [World.shape?, setRow_heap w g arr arr' ty _ hg, hsize]; rw [← hcap]; rfl⟩)

theorem grownCap_ge' (w : World) (need old : Nat) (e : TypeId) : need ≤ grownCap w need old e := grownCap_ge w need old e

/-- append(s, x...). -/
theorem write_append (m : Mem P md w O X μ H L) {t e : TypeId} {sz by_ : Nat} (ht : P.underlying t = some (.slice e)) (hs : tsize P e = some sz) (hby : tbytes P e = some by_) (hpos : 0 < sz) {z : Value} {zl : List AV} (hz : (P.info? e).bind (·.zero) = some z) (hzl : valCells z = some zl) (hzn : zl.length = sz)
    {ty : TypeId} {sv xv : Value} {s x v : AV} {L' : Lv} {xs ys : List (List AV)} (hsr : Rep w O X μ s sv) (hxr : Rep w O X μ x xv) (hxs : Ev.elems H L s = some xs) (hys : Ev.elems H L x = some ys)
    (hlen : xs.length + ys.length ≤ 9223372036854775807) (hlim : (xs.length + ys.length) * by_ ≤ 140737488355328) (hall : ys.all (fun c => decide (c.length = sz)) = true)
    (h : appV H L sz s xs ys = some (v, L')) :
    ∃ w' O' X' μ' u, (Builtin.append_ #[t, t] ty #[sv, xv]).run P w = .ok u w' ∧ Rep w' O' X' μ' v u ∧ Ext w O X μ w' O' X' μ' ∧ Mem P md w' O' X' μ' H L' := by
  have hy' := get_of_all hall
  obtain ⟨B, c', hB, hB2, hB3, hB4⟩ := m.slice hxr hys hpos hy'
  have hyl : ys.flatten.length = ys.length * sz := length_flatten (sz := sz) _ hy'
  obtain ⟨us, k1, k2, k3, k4, k5⟩ := first_cells (P := P) (A := B) (n := ys.length) (c := c') (sz := sz) (k := ys.length) (cs := ys.flatten) hyl (fun q => by have := hB3 q; omega) hB4
  obtain ⟨ti, hti, hts⟩ := info_of_size hs
  obtain ⟨ti2, hti2, htz⟩ := Option.bind_eq_some_iff.1 hz
  rw [hti] at hti2
  simp only [Option.some.injEq] at hti2
  subst hti2
  have hbytes : ti.bytes = by_ := by simpa [tbytes, hti] using hby
  have hzsz : z.cells.size = sz := by rw [(repL_zero (w := w) (O := O) (X := X) (μ := μ) (t := e) hzl).1, hzn]
  -- nothing is appended
  have none_ : ∀ (A : Option Addr) (n c : Nat), ys = [] → sv = .slice A n c → n ≤ c → (Builtin.append_ #[t, t] ty #[sv, xv]).run P w = .ok sv w := by
    intro A n c h0 h1 h2
    subst h0
    rw [hB, h1]
    exact append_none ht hs ty A B n c c' h2
  -- a new row
  have grow_ : ∀ (A : Option Addr) (c : Nat) (xs : List (List AV)) (L1 : Lv), ys ≠ [] → sv = .slice A xs.length c → (A = none → c = 0 ∧ xs = []) → (∀ y ∈ xs, y.length = sz) → (∀ ad, A = some ad → CellsAt w O X μ xs.flatten ad) → c < xs.length + ys.length →
      xs.length + ys.length ≤ 9223372036854775807 → (xs.length + ys.length) * by_ ≤ 140737488355328 → (L1 = L ∨ ∃ b, L1 = L.set b .dead) →
      ∃ w' O' X' μ' u, (Builtin.append_ #[t, t] ty #[sv, xv]).run P w = .ok u w' ∧ Rep w' O' X' μ' (.own H.length L.length 0 (xs.length + ys.length) sz false) u ∧ Ext w O X μ w' O' X' μ' ∧ Mem P md w' O' X' μ' H (L1 ++ [.cells (xs.flatten ++ ys.flatten)]) := by
    intro A c xs L1 hne h1 hA0 hx hcells hc hlen hlim hL1
    have hxl : xs.flatten.length = xs.length * sz := length_flatten (sz := sz) _ hx
    have hypos : 0 < ys.length := List.length_pos_iff.2 hne
    obtain ⟨B', rfl⟩ : ∃ B', B = some B' := by
      cases B with
      | none => exfalso; have := hB3 rfl; omega
      | some B' => exact ⟨B', rfl⟩
    cases A with
    | none =>
      obtain ⟨rfl, rfl⟩ := hA0 rfl
      have hr := run_append_nil (P := P) w t ty e ti z ht hti htz B' ys.length c' us (by rw [k2, hyl, hts]) (k5 B' rfl) hypos (by simp at hlen; omega) (by simp at hlim; rw [hbytes]; omega)
      obtain ⟨O', X', μ', a1, a2, a3⟩ := append_new (e := e) (rest := Builtin.zeroCells z.cells (grownCap w ys.length 0 e - ys.length)) m hL1 hpos (grownCap_ge' w ys.length 0 e) (by
        have := grownCap_ge' w ys.length 0 e
        simp only [Array.size_append, List.size_toArray, size_zeroCells, k2, hyl, hzsz, ← Nat.add_mul]
        congr 1
        omega) ⟨k2, k3, k4⟩
      refine ⟨_, O', X', μ', _, by rw [h1, hB]; exact hr, ?_, a1, by simpa using a2⟩
      simpa using a3
    | some A =>
      obtain ⟨os, l1, l2, l3, l4, l5⟩ := first_cells (P := P) (A := some A) (n := xs.length) (c := c) (sz := sz) (k := xs.length) (cs := xs.flatten) hxl (fun q => by cases q) hcells
      have hr := run_append_grow (P := P) w t ty e ti z ht hti htz A xs.length c os (by rw [l2, hxl, hts]) (l5 A rfl) B' ys.length c' us (by rw [k2, hyl, hts]) (k5 B' rfl) hc (by omega) (by rw [hbytes]; exact growslice_fits hc hlim)
      have hall2 : (os ++ us).length = (xs.flatten ++ ys.flatten).length ∧ (∀ (i : Nat) (a : AV) (u : Value), (xs.flatten ++ ys.flatten)[i]? = some a → (os ++ us)[i]? = some u → Rep w O X μ a u) ∧ (∀ (i : Nat) (u : Value), (os ++ us)[i]? = some u → u.oneCell' = true) := by
        refine ⟨by simp [l2, k2], fun i a u e1 e2 => ?_, fun i u e => ?_⟩
        · by_cases hi : i < os.length
          · rw [List.getElem?_append_left (by omega)] at e1 e2
            exact l3 i a u e1 e2
          · rw [List.getElem?_append_right (by omega)] at e1 e2
            exact k3 _ a u (by rw [← e1, l2]) e2
        · have hu := List.mem_of_getElem? e
          rw [List.mem_append] at hu
          rcases hu with hu | hu
          · obtain ⟨j, hj⟩ := List.getElem?_of_mem hu; exact l4 j u hj
          · obtain ⟨j, hj⟩ := List.getElem?_of_mem hu; exact k4 j u hj
      obtain ⟨O', X', μ', a1, a2, a3⟩ := append_new (e := e) (rest := Builtin.zeroCells z.cells (grownCap w (xs.length + ys.length) c e - (xs.length + ys.length))) m hL1 hpos (grownCap_ge' w (xs.length + ys.length) c e) (by
        have := grownCap_ge' w (xs.length + ys.length) c e
        simp only [Array.size_append, List.size_toArray, size_zeroCells, List.length_append, l2, hxl, k2, hyl, hzsz, ← Nat.add_mul]
        congr 1
        omega) hall2
      have hw : (os.toArray ++ us.toArray ++ Builtin.zeroCells z.cells (grownCap w (xs.length + ys.length) c e - (xs.length + ys.length))) = (os ++ us).toArray ++ Builtin.zeroCells z.cells (grownCap w (xs.length + ys.length) c e - (xs.length + ys.length)) := by
        apply Array.ext'
        simp
      rw [← hw] at a1 a2 a3
      exact ⟨_, O', X', μ', _, by rw [h1, hB]; exact hr, a3, a1, a2⟩
  cases s with
  | sl q zs =>
    simp only [Ev.elems, Option.some.injEq] at hxs
    subst hxs
    simp only [appV] at h
    split at h
    · rename_i h0
      simp only [Option.some.injEq, Prod.mk.injEq] at h
      obtain ⟨rfl, rfl⟩ := h
      refine ⟨w, O, X, μ, sv, ?_, hsr, Ext.refl .., m⟩
      generalize hsvv : sv = sv' at hsr
      cases hsr with
      | sln => rw [← hsvv]; exact none_ none 0 0 h0 hsvv (Nat.le_refl _)
      | sl _ _ A sz' c U q1 q2 q3 q4 => rw [← hsvv]; exact none_ (some A) _ c h0 hsvv q4
    · rename_i h0
      split at h
      · rename_i hcl
        simp only [Bool.and_eq_true] at hcl
        obtain ⟨hc1, hc2⟩ := hcl
        have hc2' := get_of_all hc2
        simp only [Option.some.injEq, Prod.mk.injEq] at h
        obtain ⟨rfl, rfl⟩ := h
        obtain ⟨A, c, d1, d2, d3, d4⟩ := m.slice hsr (xs := zs) rfl hpos hc2'
        have hcc : c = zs.length := by
          rw [d1] at hsr
          cases hsr with
          | sln => rfl
          | sl _ _ A sz' c U q1 q2 q3 q4 q5 => exact q5 hc1
        have hypos : 0 < ys.length := List.length_pos_iff.2 h0
        exact grow_ A c zs L h0 d1 (fun q => ⟨d3 q, List.eq_nil_of_length_eq_zero (by have := d3 q; omega)⟩) hc2' d4 (by omega) hlen hlim (.inl rfl)
      · cases h
  | own l b i n z' cl =>
    simp only [appV] at h
    split at h
    · cases h
    · rename_i hzz
      have hzz' : z' = sz := by simpa using hzz
      subst hzz'
      have hsr0 := hsr
      cases hsr with
      | own _ _ _ _ _ _ g o c A hmu hsp hn hA hcl hsh =>
        split at h
        · rename_i h0
          simp only [Option.some.injEq, Prod.mk.injEq] at h
          obtain ⟨rfl, rfl⟩ := h
          exact ⟨w, O, X, μ, _, none_ (some A) n c h0 rfl hn, hsr0, Ext.refl .., m⟩
        · rename_i h0
          have hypos : 0 < ys.length := List.length_pos_iff.2 h0
          have hlx : (∀ y ∈ xs, y.length = z') ∧ xs.length = n := by
            simp only [Ev.elems] at hxs
            split at hxs
            · rename_i cs _
              split at hxs
              · rename_i hfit
                simp only [Option.some.injEq] at hxs
                subst hxs
                obtain ⟨p1, p2, _⟩ := chunk_len (sz := z') n (cs.drop i) (by simp; omega)
                exact ⟨p2, p1⟩
              · cases hxs
            · cases hxs
          obtain ⟨hx', hxn⟩ := hlx
          have hcells := (m.slice hsr0 hxs hpos hx')
          obtain ⟨A2, c2, d1, d2, d3, d4⟩ := hcells
          simp only [Value.slice.injEq] at d1
          obtain ⟨rfl, _, rfl⟩ := d1
          split at h
          · rename_i hcl1
            simp only [Option.some.injEq, Prod.mk.injEq] at h
            obtain ⟨rfl, rfl⟩ := h
            have hcc := hcl hcl1
            have := grow_ (some A) c xs L h0 (by rw [hxn]) (fun q => by cases q) hx' d4 (by omega) hlen hlim (.inl rfl)
            exact this
          · rename_i hcl0
            have hcl0' : cl = false := by simpa using hcl0
            subst hcl0'
            obtain ⟨ty0, hshape⟩ := hsh rfl
            cases hb : getB H L l b with
            | none => rw [hb] at h; cases h
            | some ab =>
              rw [hb] at h
              cases ab with
              | dead => cases h
              | map es => cases h
              | loop _ _ _ _ => cases h
              | cells cs =>
                simp only at h
                split at h
                · rename_i hfit
                  simp only [Option.map_eq_some_iff, Prod.mk.injEq] at h
                  obtain ⟨L1, hset, rfl, rfl⟩ := h
                  obtain ⟨rfl, hbl, rfl⟩ := setB_spec hset
                  rw [getB_cur] at hb
                  obtain ⟨g', o', q1, hXg, arr, ty', q2, q3, q4⟩ := m.cur b _ hb AB.cells_live
                  rw [hmu] at q1
                  simp only [Option.some.injEq, Prod.mk.injEq] at q1
                  obtain ⟨rfl, rfl⟩ := q1
                  have hcap : o + i + c * z' = arr.size := by
                    simp only [World.shape?, q2, Option.some.injEq, Prod.mk.injEq] at hshape
                    exact hshape.2.symm
                  have hroom : n + ys.length ≤ c := by
                    have h1 : (n + ys.length) * z' ≤ c * z' := by omega
                    exact Nat.le_of_mul_le_mul_right h1 hpos
                  have hc0 : c ≠ 0 := by omega
                  have hmul : (n + ys.length) * z' = n * z' + ys.length * z' := Nat.add_mul _ _ _
                  obtain ⟨s1, s2, s3⟩ := store_row (P := P) m (i := i + n * z') (vs := ys.flatten) (us := us) hb hmu q2 q3 q4 ⟨k2, k3, k4⟩ (by omega)
                  refine ⟨_, O, X, μ, .slice (some A) (n + ys.length) c, ?_, ?_, s2, s3⟩
                  · rw [hB]
                    refine append_room ht hs ty A _ n c ys.length us (by rfl) k1 hroom ?_
                    rw [hA hc0, Addr.add_lit, Nat.add_assoc]
                    exact s1
                  · refine .own _ _ _ _ _ false g o c A hmu hsp hroom hA (fun q => by cases q) (fun _ => ⟨ty0, ?_⟩)
                    rw [s2.shape g (lt_of_shape hshape)]
                    exact hshape
                · split at h
                  · rename_i hend
                    simp only [Option.map_eq_some_iff, Prod.mk.injEq] at h
                    obtain ⟨L1, hset, rfl, rfl⟩ := h
                    obtain ⟨rfl, hbl, rfl⟩ := setB_spec hset
                    by_cases hroom : n + ys.length ≤ c
                    · have hb' := hb
                      rw [getB_cur] at hb'
                      obtain ⟨g', o', q1, hXg, arr, ty', q2, q3, q4⟩ := m.cur b _ hb' AB.cells_live
                      rw [hmu] at q1
                      simp only [Option.some.injEq, Prod.mk.injEq] at q1
                      obtain ⟨rfl, rfl⟩ := q1
                      have hcap : o + i + c * z' = arr.size := by
                        simp only [World.shape?, q2, Option.some.injEq, Prod.mk.injEq] at hshape
                        exact hshape.2.symm
                      have hc0 : c ≠ 0 := by omega
                      have hmul : (n + ys.length) * z' = n * z' + ys.length * z' := Nat.add_mul _ _ _
                      have hmul2 : (n + ys.length) * z' ≤ c * z' := Nat.mul_le_mul_right _ hroom
                      have hzs : xs.flatten = cs.drop i := by
                        simp only [Ev.elems, hb] at hxs
                        rw [if_pos (by omega)] at hxs
                        simp only [Option.some.injEq] at hxs
                        rw [← hxs, (chunk_len (sz := z') n (cs.drop i) (by simp; omega)).2.2, List.take_of_length_le (by simp; omega)]
                      obtain ⟨s1, μ', s2, s3, s4⟩ := append_here (P := P) m (i := i) (vs := ys.flatten) (zs := xs.flatten) (us := us) hb' hmu q2 q4 ⟨k2, k3, k4⟩ hzs (by omega) (by omega) hpos hroom hcap
                      refine ⟨_, O, X, μ', .slice (some A) (n + ys.length) c, ?_, ?_, s2, s3⟩
                      · rw [hB]
                        refine append_room ht hs ty A _ n c ys.length us (by rfl) k1 hroom ?_
                        rw [hA hc0, Addr.add_lit, show o + i + n * z' = o + cs.length by omega]
                        exact s1
                      · rw [hA hc0, hxn]
                        exact s4
                    · have := grow_ (some A) c xs (L.set b .dead) h0 (by rw [hxn]) (fun q => by cases q) hx' d4 (by omega) hlen hlim (.inr ⟨b, rfl⟩)
                      exact this
                  · cases h
  | _ => simp only [appV, reduceCtorEq] at h

end
end Go.Ev
