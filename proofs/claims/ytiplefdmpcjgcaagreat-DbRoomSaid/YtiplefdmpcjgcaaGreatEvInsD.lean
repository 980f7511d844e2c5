/- slices.Insert: what it comes to where there is no room; all of it. -/
import Derived.Test.YtiplefdmpcjgcaaGreatEvInsC
namespace Go.Ev
open Go Go.RowKit

section
variable {P : Program} {md : Nat → Md} {w : World} {O X : Nat → Prop} {μ : Mu} {H : List Lv} {L : Lv}

theorem put_at {α : Type} (p q us : List α) (n : Nat) (h : n = p.length) : (p ++ q).take n ++ us ++ (p ++ q).drop (n + us.length) = p ++ us ++ q.drop us.length := by
  subst h
  rw [List.take_left' rfl, List.drop_append]
  simp

/-- A new row. -/
theorem ins_more (m : Mem P md w O X μ H L) {t tn e : TypeId} {sz by_ : Nat} {ti : TypeInfo} {z : Value} (ht : P.underlying t = some (.slice e)) (htn : P.underlying tn = some (.int .i64)) (hs : tsize P e = some sz) (hti : P.info? e = some ti) (hts : ti.size = sz) (htb : ti.bytes = by_) (htz : ti.zero = some z) (hzsz : z.cells.size = sz) (hsz : 0 < sz)
    {b n k q c c2 g o : Nat} {cs ys : List AV} {arr : Array Value} {ty : TypeId} {os us : List Value} {A2 : Addr}
    (hcs : cs.length = n * sz) (hk : k < n) (hq : 0 < q) (hnc : n ≤ c) (hroom : c < n + q) (h63 : n + q ≤ 9223372036854775807) (hlim : (n + q) * by_ ≤ 140737488355328) (hg : w.heap[g]? = some (.cells arr ty (0, 0))) (hcap : o + c * sz = arr.size)
    (hos : RL w O X μ cs os) (harr : (arr.toList.drop o).take (n * sz) = os) (hus : RL w O X μ ys us) (hql : ys.length = q * sz) (hA2 : A2.block < w.heap.size) (hrd : ∀ (j : Nat) (u : Value), us[j]? = some u → w.cell? (A2.add j) = some u) :
    ∃ G W1 W2 W3 O' X' μ', n + q ≤ G ∧ (∀ ty, (Builtin.append_ #[t, tn] ty #[.slice (some ⟨g, o, none⟩) k c, .int .i64 ((n : Int) + (q : Int) - (k : Int))]).run P w = .ok (.slice (some ⟨w.heap.size, 0, none⟩) (n + q) G) W1) ∧
      (∀ ty dc, (Builtin.copy_ #[t, t] ty #[.slice (some ⟨w.heap.size, k * sz, none⟩) (n + q - k) dc, .slice (some A2) q c2]).run P W1 = .ok (goInt (q : Int)) W2) ∧
      (∀ ty dc sc, (Builtin.copy_ #[t, t] ty #[.slice (some ⟨w.heap.size, (k + q) * sz, none⟩) (n + q - (k + q)) dc, .slice (some ⟨g, o + k * sz, none⟩) (n - k) sc]).run P W2.drew = .ok (goInt ((n - k : Nat) : Int)) W3) ∧
      Ext w O X μ W3 O' X' μ' ∧ Mem P md W3 O' X' μ' H (L.set b .dead ++ [.cells (cs.take (k * sz) ++ ys ++ cs.drop (k * sz))]) ∧
      Rep W3 O' X' μ' (.own H.length L.length 0 (n + q) sz false) (.slice (some ⟨w.heap.size, 0, none⟩) (n + q) G) := by
  have hosl : os.length = n * sz := by rw [hos.1, hcs]
  have husl : us.length = q * sz := by rw [hus.1, hql]
  have hkn : k * sz + (n - k) * sz = n * sz := by rw [← Nat.add_mul]; congr 1; omega
  have hnqk : (n + q - k) * sz = q * sz + (n - k) * sz := by rw [← Nat.add_mul]; congr 1; omega
  have hkq : (k + q) * sz = k * sz + q * sz := Nat.add_mul _ _ _
  have hncs : n * sz ≤ c * sz := Nat.mul_le_mul_right _ hnc
  obtain ⟨a, ha⟩ : ∃ a, a = os.take (k * sz) := ⟨_, rfl⟩
  obtain ⟨d, hd⟩ : ∃ d, d = os.drop (k * sz) := ⟨_, rfl⟩
  have hal : a.length = k * sz := by rw [ha]; simp; omega
  have hdl : d.length = (n - k) * sz := by rw [hd]; simp; omega
  have harro : ∀ (j : Nat) (u : Value), os[j]? = some u → arr[o + j]? = some u := fun j u e' => by
    rw [← harr, List.getElem?_take] at e'
    split at e'
    · rw [List.getElem?_drop, Array.getElem?_toList] at e'
      exact e'
    · cases e'
  have hgw : g < w.heap.size := (Array.getElem?_eq_some_iff.1 hg).1
  obtain ⟨G, hG⟩ : ∃ G, G = grownCap w (n + q) c e := ⟨_, rfl⟩
  have hGn : n + q ≤ G := by rw [hG]; exact grownCap_ge w _ _ _
  obtain ⟨Z2, hZ2⟩ : ∃ Z2, Z2 = Builtin.zeroCells z.cells (G - (n + q)) := ⟨_, rfl⟩
  obtain ⟨Z1, hZ1⟩ : ∃ Z1, Z1 = Builtin.zeroCells z.cells (n + q - k) := ⟨_, rfl⟩
  have hZ1s : Z1.size = q * sz + (n - k) * sz := by rw [hZ1, size_zeroCells, hzsz, hnqk]
  have hZ2s : Z2.size = (G - (n + q)) * sz := by rw [hZ2, size_zeroCells, hzsz]
  have hgd : w.drew.heap[g]? = some (.cells arr ty (0, 0)) := hg
  -- the append
  have hrz : ∀ ty, (Builtin.append_ #[t, tn] ty #[.slice (some ⟨g, o, none⟩) k c, .int .i64 ((n : Int) + (q : Int) - (k : Int))]).run P w = .ok (.slice (some ⟨w.heap.size, 0, none⟩) (n + q) G) (w.drew.alloc (.cells (a.toArray ++ Z1 ++ Z2) e)) := fun ty => by
    have hold : (Builtin.firstCells ti.size k (.slice (some ⟨g, o, none⟩) k c)).run P w.drew = .ok a.toArray w.drew := by
      rw [hts]
      refine row_firsts a hgd hal (fun j u e' => harro j u ?_) _ _
      rw [ha, List.getElem?_take] at e'
      split at e'
      · exact e'
      · cases e'
    have hsum : k + (n + q - k) = n + q := by omega
    have h := Lib.run_append_grow_zeros w t tn ty e ti z .i64 .i64 ht htn hti htz (some ⟨g, o, none⟩) k c a hold (n + q - k) (by omega) (by omega) (by omega) (by omega) (by
      have : (n + q - k) * ti.bytes ≤ (n + q) * ti.bytes := Nat.mul_le_mul_right _ (by omega)
      rw [htb] at this ⊢
      omega) (by rw [hsum, htb]; exact growslice_fits hroom hlim)
    rw [hsum, ← hG, ← hZ1, ← hZ2] at h
    rw [show (n : Int) + (q : Int) - (k : Int) = ((n + q - k : Nat) : Int) by omega]
    exact h
  have hrow0 : a.toArray ++ Z1 ++ Z2 = (a ++ (Z1.toList ++ Z2.toList)).toArray := by apply Array.ext'; simp
  rw [hrow0] at hrz
  -- the first copy
  have hN1 : ∀ (W : World) (r : Array Value), (W.alloc (.cells r e)).heap[W.heap.size]? = some (.cells r e (0, 0)) := fun W r => heap_alloc_new _ _
  have hst1 := run_storeCells_at P w.heap.size (k * sz) e us 0 (a ++ (Z1.toList ++ Z2.toList)).toArray (w.drew.alloc (.cells (a ++ (Z1.toList ++ Z2.toList)).toArray e)) (hN1 w.drew _) (by simp; omega) hus.mem
  simp only [Nat.add_zero] at hst1
  rw [put_at a _ us (k * sz) hal.symm] at hst1
  have hal1 := alloc_setRow w.drew (a ++ (Z1.toList ++ Z2.toList)).toArray (a ++ us ++ (Z1.toList ++ Z2.toList).drop us.length).toArray e
  have hwd : w.drew.heap.size = w.heap.size := rfl
  rw [hwd] at hal1
  rw [hal1] at hst1
  -- the second
  have hst2 := run_storeCells_at P w.heap.size ((k + q) * sz) e d 0 (a ++ us ++ (Z1.toList ++ Z2.toList).drop us.length).toArray (w.drew.drew.alloc (.cells (a ++ us ++ (Z1.toList ++ Z2.toList).drop us.length).toArray e)) (hN1 w.drew.drew _) (by simp; omega) (fun v hv => hos.mem v (by rw [hd] at hv; exact List.mem_of_mem_drop hv))
  simp only [Nat.add_zero] at hst2
  rw [put_at (a ++ us) _ d ((k + q) * sz) (by simp; omega)] at hst2
  have hal2 := alloc_setRow w.drew.drew (a ++ us ++ (Z1.toList ++ Z2.toList).drop us.length).toArray (a ++ us ++ d ++ ((Z1.toList ++ Z2.toList).drop us.length).drop d.length).toArray e
  have hwd2 : w.drew.drew.heap.size = w.heap.size := rfl
  rw [hwd2] at hal2
  rw [hal2] at hst2
  have hrest : (a ++ us ++ d ++ ((Z1.toList ++ Z2.toList).drop us.length).drop d.length).toArray = (a ++ us ++ d).toArray ++ Z2 := by
    have e1 : ((Z1.toList ++ Z2.toList).drop us.length).drop d.length = Z2.toList := by
      rw [List.drop_drop]
      exact List.drop_left' (by simp; omega)
    rw [e1]
    apply Array.ext'
    simp
  rw [hrest] at hst2
  -- memory
  have hus' : RL w.drew O X μ (cs.take (k * sz) ++ ys ++ cs.drop (k * sz)) (a ++ us ++ d) := by
    rw [ha, hd]
    exact (((hos.take _).append hus).append (hos.drop _)).drew m
  have hlen' : (a ++ us ++ d).length = n * sz + q * sz := by simp only [List.length_append, hal, husl, hdl]; omega
  obtain ⟨O', X', μ', r1, r2, r3⟩ := append_new (e := e) (rest := Z2) m.drew (.inr ⟨b, rfl⟩ : L.set b .dead = L ∨ ∃ b', L.set b .dead = L.set b' .dead) hsz hGn (by
    simp only [Array.size_append, List.size_toArray, hlen', hZ2s, ← Nat.add_mul]
    congr 1
    omega) hus'
  refine ⟨G, w.drew.alloc (.cells (a ++ (Z1.toList ++ Z2.toList)).toArray e), w.drew.alloc (.cells (a ++ us ++ (Z1.toList ++ Z2.toList).drop us.length).toArray e), w.drew.drew.alloc (.cells ((a ++ us ++ d).toArray ++ Z2) e), O', X', μ', hGn, hrz, fun ty' dc => ?_, fun ty' dc sc => ?_, ext_drew.trans r1, r2, r3⟩
  · refine run_copy_row ht hs ty' _ _ _ _ _ _ q us (by omega) (run_firstCells_some _ sz q A2 q c2 us husl (fun j u e' => ?_)) hst1
    have := hrd j u e'
    have hne : (A2.add j).block < w.heap.size := by unfold Addr.add; split <;> exact hA2
    rw [← this]
    simp only [World.cell?]
    rw [Go.heap_alloc_old]
    · rfl
    · exact hne
  · refine run_copy_row ht hs ty' _ _ _ _ _ _ (n - k) d (by omega) ?_ hst2
    refine row_firsts (g := g) (arr := arr) (ty := ty) (fr := (0, 0)) d ?_ hdl (fun j u e' => ?_) _ _
    · show (w.drew.drew.alloc _).heap[g]? = _
      rw [Go.heap_alloc_old]
      · exact hg
      · exact hgw
    · rw [hd, List.getElem?_drop] at e'
      rw [Nat.add_assoc]
      exact harro _ u e'

theorem ins_sound {f ovl t tn e : Nat} {sz by_ : Nat} {ti : TypeInfo} {z : Value} (ht : P.underlying t = some (.slice e)) (htn : P.underlying tn = some (.int .i64)) (hs : tsize P e = some sz) (hti : P.info? e = some ti) (hts : ti.size = sz) (htb : ti.bytes = by_) (htz : ti.zero = some z) (hzsz : z.cells.size = sz) (hsz : 0 < sz)
    {zl : List AV} (hzl : valCells z = some zl) (hE : Enters P f)
    (shift : ∀ (g o n c i m c2 : Nat) (A2 : Addr) (w W1 W2 : World) (v1 v2 : Value), i < n → 0 < m → n + m ≤ c → n + m ≤ 9223372036854775807 →
      (∀ lb cb, (callFunc ovl #[.slice (some A2) m c2, .slice (some ⟨g, o + (i + m) * sz, none⟩) lb cb]).run P w = .ok (.value (.bool false)) w) →
      (∀ ty dc sc, (Builtin.copy_ #[t, t] ty #[.slice (some ⟨g, o + (i + m) * sz, none⟩) (n + m - (i + m)) dc, .slice (some ⟨g, o + i * sz, none⟩) (n + m - i) sc]).run P w.drew = .ok v1 W1) →
      (∀ ty dc, (Builtin.copy_ #[t, t] ty #[.slice (some ⟨g, o + i * sz, none⟩) (n + m - i) dc, .slice (some A2) m c2]).run P W1 = .ok v2 W2) →
      Calls P f #[.slice (some ⟨g, o, none⟩) n c, .int .i64 i, .slice (some A2) m c2] w fun e w' => e = .returned (.slice (some ⟨g, o, none⟩) (n + m) c) ∧ w' = W2)
    (end_ : ∀ (A : Option Addr) (n c m c2 : Nat) (A2 : Addr) (w W1 : World) (u : Value), 0 < m → n ≤ c → (∀ ty, (Builtin.append_ #[t, t] ty #[.slice A n c, .slice (some A2) m c2]).run P w = .ok u W1) →
      Calls P f #[.slice A n c, .int .i64 n, .slice (some A2) m c2] w fun e w' => e = .returned u ∧ w' = W1)
    (grow : ∀ (g o n c i m c2 N G : Nat) (A2 : Addr) (w W1 W2 W3 : World) (v1 v2 : Value), i < n → 0 < m → n ≤ c → c < n + m → n + m ≤ G → n + m ≤ 9223372036854775807 →
      (∀ ty, (Builtin.append_ #[t, tn] ty #[.slice (some ⟨g, o, none⟩) i c, .int .i64 ((n : Int) + (m : Int) - (i : Int))]).run P w = .ok (.slice (some ⟨N, 0, none⟩) (n + m) G) W1) →
      (∀ ty dc, (Builtin.copy_ #[t, t] ty #[.slice (some ⟨N, i * sz, none⟩) (n + m - i) dc, .slice (some A2) m c2]).run P W1 = .ok v2 W2) →
      (∀ ty dc sc, (Builtin.copy_ #[t, t] ty #[.slice (some ⟨N, (i + m) * sz, none⟩) (n + m - (i + m)) dc, .slice (some ⟨g, o + i * sz, none⟩) (n - i) sc]).run P W2.drew = .ok v1 W3) →
      Calls P f #[.slice (some ⟨g, o, none⟩) n c, .int .i64 i, .slice (some A2) m c2] w fun e w' => e = .returned (.slice (some ⟨N, 0, none⟩) (n + m) G) ∧ w' = W3)
    (apart : ∀ (w : World) (a b : Addr) (la ca lb cb : Nat) (tA tB : TypeId) (kA kB : Nat), a.block ≠ b.block → w.shape? a.block = some (tA, kA) → w.shape? b.block = some (tB, kB) → kB ≠ 0 → w.frozen? a = false → w.frozen? { block := a.block, off := kA } = false →
      (callFunc ovl #[.slice (some a) la ca, .slice (some b) lb cb]).run P w = .ok (.value (.bool false)) w) :
    SoundC P md (fun f' vs H L => if f' = f then exIns sz by_ f' vs H L else none) := by
  intro f' vs H L v L' h _
  dsimp only at h
  split at h
  · rename_i hf
    subst hf
    refine ⟨hE, fun w O X μ vals m ha => ?_⟩
    unfold exIns at h
    split at h
    · rename_i s i l2 b2 i2 q z2 cl2
      cases hxs : elems H L s with
      | none => rw [hxs] at h; cases h
      | some xs =>
        cases hys : elems H L (.own l2 b2 i2 q z2 cl2) with
        | none => rw [hxs, hys] at h; cases h
        | some ys =>
          rw [hxs, hys] at h
          simp only at h
          split at h
          · rename_i hc
            obtain ⟨rfl, hq, hi0, h63, hlim, hall⟩ := hc
            have hsu : s ≠ .un := by rintro rfl; simp [elems] at hxs
            obtain ⟨sv, iv, xv, rfl, rs, ri, rx⟩ := args_three ha hsu (by simp) (by simp)
            cases ri
            obtain ⟨k, rfl⟩ := Int.eq_ofNat_of_zero_le hi0
            simp only [Int.toNat_natCast] at h
            have hy' := get_of_all hall
            have hyq : ys.length = q := by
              simp only [elems] at hys
              split at hys
              · split at hys
                · simp only [Option.some.injEq] at hys
                  subst hys
                  exact (chunk_len (sz := z2) q _ (by simp; omega)).1
                · cases hys
              · cases hys
            obtain ⟨B, c2, hB, hB2, hB3, hB4⟩ := m.slice rx hys hsz hy'
            obtain ⟨A2, rfl⟩ : ∃ A2, B = some A2 := by
              cases B with
              | none => exfalso; have := hB3 rfl; omega
              | some A2 => exact ⟨A2, rfl⟩
            have hyl : ys.flatten.length = q * z2 := by rw [length_flatten (sz := z2) _ hy', hyq]
            obtain ⟨us, k1, k2, k3, k4, k5⟩ := first_cells (P := P) (A := some A2) (n := ys.length) (c := c2) (sz := z2) (k := q) (cs := ys.flatten) hyl (fun e' => by cases e') hB4
            rw [hyq] at hB
            split at h
            · rename_i hk
              subst hk
              have hz2 : (P.info? e).bind (·.zero) = some z := by rw [hti]; exact htz
              have hzn : zl.length = z2 := by rw [← hzsz, (repL_zero (w := w) (O := O) (X := X) (μ := μ) (t := e) hzl).1]
              obtain ⟨A, c, d1, d2, _, _⟩ := m.elems rs hxs
              have hby : tbytes P e = some by_ := by simp [tbytes, hti, htb]
              obtain ⟨w', O', X', μ', u, a1, a2, a3, a4⟩ := write_append (P := P) m (ty := 0) ht hs hby hsz hz2 hzl hzn rs rx hxs hys h63 hlim hall h
              rw [d1, hB] at a1
              rw [d1, hB]
              refine (end_ A xs.length c q c2 A2 w w' u hq d2 (fun ty => by rw [append_ty _ ty 0]; exact a1)).mono fun e' w'' he => ?_
              obtain ⟨rfl, rfl⟩ := he
              exact ⟨u, rfl, O', X', μ', a3, a4, fun _ => a2⟩
            · rename_i hkn
              split at h
              · rename_i l b n zz
                split at h
                · rename_i cs hb
                  split at h
                  · rename_i hc2
                    obtain ⟨rfl, rfl, hkl, hcs, hne⟩ := hc2
                    simp only [Option.some.injEq, Prod.mk.injEq] at h
                    obtain ⟨rfl, rfl⟩ := h
                    rw [getB_cur] at hb
                    obtain ⟨g, o, c, arr, ty, os, p1, p2, p3, p4, p5, p6, p7, p8, p9, p10, p11⟩ := own_row m rs hb hcs (by omega)
                    obtain ⟨g2, o2, arr2, ty2, c2', q1, q2, q3, q4⟩ := own_far m rx hys hq hb hne p4 p5
                    rw [hB] at q1
                    simp only [Value.slice.injEq, Option.some.injEq, true_and] at q1
                    obtain ⟨rfl, rfl⟩ := q1
                    have hos : RL w O X μ cs os := ⟨by rw [p8, hcs], p9, p10⟩
                    have hus : RL w O X μ ys.flatten us := ⟨k2, k3, k4⟩
                    have hrd := k5 _ rfl
                    have hxn : xs.length = n := by
                      simp only [elems, getB_cur, hb] at hxs
                      split at hxs
                      · simp only [Option.some.injEq] at hxs
                        subst hxs
                        exact (chunk_len (sz := zz) n _ (by simp; omega)).1
                      · cases hxs
                    rw [hxn, hyq] at h63 hlim
                    rw [p1, hB, hyq]
                    by_cases hroom : n + q ≤ c
                    · obtain ⟨W1, W2, μ', r1, r2, r3, r4, r5⟩ := ins_room (P := P) (t' := t) (A2 := ⟨g2, o2, none⟩) (c2 := c2) m ht hs hsz hb hcs hkl hq hroom p4 p6 p7 hos p11 hus hyl q3 hrd
                      refine (shift g o n c k q c2 ⟨g2, o2, none⟩ w W1 W2 _ _ hkl hq hroom h63 (fun lb cb => ?_) r1 r2).mono fun e' w'' he => ?_
                      · refine apart w ⟨g2, o2, none⟩ _ q c2 lb cb ty2 ty arr2.size arr.size q3 (by simp [World.shape?, q4]) (by simp [World.shape?, p6]) ?_ (by simp [World.frozen?, q4]) (by simp [World.frozen?, q4])
                        have : 0 < c * zz := Nat.mul_pos (by omega) hsz
                        omega
                      · obtain ⟨rfl, rfl⟩ := he
                        exact ⟨_, rfl, O, X, μ', r3, r4, fun _ => r5⟩
                    · obtain ⟨G, W1, W2, W3, O', X', μ', r0, r1, r2, r3, r4, r5, r6⟩ := ins_more (P := P) (b := b) (A2 := ⟨g2, o2, none⟩) (c2 := c2) m ht htn hs hti hts htb htz hzsz hsz hcs hkl hq p3 (by omega) h63 hlim p6 p7 hos p11 hus hyl (Array.getElem?_eq_some_iff.1 q4).1 hrd
                      refine (grow g o n c k q c2 w.heap.size G ⟨g2, o2, none⟩ w W1 W2 W3 _ _ hkl hq p3 (by omega) r0 h63 r1 r2 r3).mono fun e' w'' he => ?_
                      obtain ⟨rfl, rfl⟩ := he
                      exact ⟨_, rfl, O', X', μ', r4, r5, fun _ => r6⟩
                  · cases h
                · cases h
              · cases h
          · cases h
    · cases h
  · cases h

end
end Go.Ev
