/- Operations that write memory. -/
import Derived.Test.YtiplefdmpcjgcaaGreatEvMake
import Derived.Laws.CopyOwn
namespace Go.Ev
open Go Go.RowKit

section
variable {P : Program} {md : Nat → Md} {w : World} {O X : Nat → Prop} {μ : Mu} {H : List Lv} {L : Lv}

theorem ext_row {g : Nat} {arr arr' : Array Value} {ty : TypeId} (hg : w.heap[g]? = some (.cells arr ty (0, 0))) (hs : arr'.size = arr.size) (hx : X g) : Ext w O X μ (w.setRow g arr') O X μ where
  mu _ _ _ h := h
  mu' _ _ _ h k := by rw [h] at k; cases k
  os := rfl
  tape := rfl
  output := rfl
  size := by simp
  block k _ hk := setRow_other w g k arr' (fun e => hk (by rw [e]; exact hx))
  shape k _ := by
    unfold World.shape?
    by_cases e : k = g
    · subst e
      rw [setRow_heap w k arr arr' ty _ hg, hg]
      simp [hs]
    · rw [setRow_other w g k arr' e]
  o _ h := h
  o' _ h := .inl h
  x _ h := h
  x' _ h := .inl h

theorem getElem?_set_of {b : Nat} {x : AB} {i : Nat} {y : AB} (h : (L.set b x)[i]? = some y) : i = b ∧ y = x ∨ i ≠ b ∧ L[i]? = some y := by
  rw [List.getElem?_set] at h
  split at h
  · rename_i e
    split at h
    · exact .inl ⟨e.symm, by simpa using h.symm⟩
    · cases h
  · rename_i e
    exact .inr ⟨fun q => e q.symm, h⟩

/-- A block of the level is written. -/
theorem Mem.set {w' : World} {b g o : Nat} {x x' : AB} (m : Mem P md w O X μ H L) (hb : L[b]? = some x) (hl : x.live) (hmu : μ H.length b = some (g, o)) (h : Ext w O X μ w' O X μ) (hsz : w'.heap.size = w.heap.size)
    (ho : ∀ k, k ≠ g → w'.heap[k]? = w.heap[k]?) (hr : BR P md w' O X μ x' g o) : Mem P md w' O X μ H (L.set b x') := by
  have hbl : b < L.length := (List.getElem?_eq_some_iff.1 hb).1
  have hXg : X g := by
    obtain ⟨g', o', h1, h2, _⟩ := m.cur b x hb hl
    rw [hmu] at h1
    simp only [Option.some.injEq, Prod.mk.injEq] at h1
    rw [h1.1]; exact h2
  refine m.step h m.xo (fun k hk => by rw [hsz]; exact m.ol k hk) (fun i hi => m.dom i (by simpa using hi)) m.dom2 (fun i y e hy => ?_) (fun i j y z k p q e1 l1 e2 l2 h1 h2 => ?_)
  · rcases getElem?_set_of e with ⟨rfl, rfl⟩ | ⟨hne, e'⟩
    · exact .inr ⟨g, o, hmu, hXg, hr⟩
    · refine .inl ⟨e', fun k p hk => ho k (fun q => hne ?_)⟩
      rw [q] at hk
      exact m.inj i b y x g p o e' hy hb hl hk hmu
  · have old : ∀ (i : Nat) (y : AB), (L.set b x')[i]? = some y → y.live → ∃ z, L[i]? = some z ∧ z.live := by
      intro i y e hy
      rcases getElem?_set_of e with ⟨rfl, rfl⟩ | ⟨_, e'⟩
      · exact ⟨x, hb, hl⟩
      · exact ⟨y, e', hy⟩
    obtain ⟨y', k1, k2⟩ := old i y e1 l1
    obtain ⟨z', k3, k4⟩ := old j z e2 l2
    exact m.inj i j y' z' k p q k1 k2 k3 k4 h1 h2

theorem setB_spec {l b : Nat} {x : AB} {L' : Lv} (h : setB H L l b x = some L') : l = H.length ∧ b < L.length ∧ L' = L.set b x := by
  unfold setB at h
  split at h
  · rename_i hc; simp only [Option.some.injEq] at h; exact ⟨hc.1, hc.2, h.symm⟩
  · cases h

theorem getB_cur {b : Nat} : getB H L H.length b = L[b]? := by simp [getB]

/-- Cells are laid into a row. -/
theorem store_row (m : Mem P md w O X μ H L) {b g o i : Nat} {cs vs : List AV} {us : List Value} {arr : Array Value} {ty : TypeId} (hb : L[b]? = some (.cells cs)) (hmu : μ H.length b = some (g, o))
    (hg : w.heap[g]? = some (.cells arr ty (0, 0))) (ho : o + cs.length ≤ arr.size) (hcs : ∀ (i : Nat) (a : AV), cs[i]? = some a → ∃ u : Value, arr[o + i]? = some u ∧ u.oneCell' = true ∧ Rep w O X μ a u)
    (hv : us.length = vs.length ∧ (∀ (i : Nat) (a : AV) (u : Value), vs[i]? = some a → us[i]? = some u → Rep w O X μ a u) ∧ (∀ (i : Nat) (u : Value), us[i]? = some u → u.oneCell' = true)) (hi : i + vs.length ≤ cs.length) :
    (storeCells ⟨g, o + i, none⟩ us).run P w = .ok () (w.setRow g (arr.toList.take (o + i) ++ us ++ arr.toList.drop (o + i + us.length)).toArray) ∧
    Ext w O X μ (w.setRow g (arr.toList.take (o + i) ++ us ++ arr.toList.drop (o + i + us.length)).toArray) O X μ ∧
    Mem P md (w.setRow g (arr.toList.take (o + i) ++ us ++ arr.toList.drop (o + i + us.length)).toArray) O X μ H (L.set b (.cells (put cs i vs))) := by
  obtain ⟨v1, v2, v3⟩ := hv
  have hst := run_storeCells_at P g (o + i) ty us 0 arr w hg (by omega) (fun v hv => by obtain ⟨j, hj⟩ := List.getElem?_of_mem hv; exact v3 j v hj)
  simp only [Nat.add_zero] at hst
  have hsz : (arr.toList.take (o + i) ++ us ++ arr.toList.drop (o + i + us.length)).toArray.size = arr.size := by simp; omega
  obtain ⟨g', o', q1, hXg, _⟩ := m.cur b _ hb AB.cells_live
  rw [hmu] at q1
  simp only [Option.some.injEq, Prod.mk.injEq] at q1
  obtain ⟨rfl, rfl⟩ := q1
  have he := ext_row (O := O) (μ := μ) hg hsz hXg
  refine ⟨hst, he, m.set hb AB.cells_live hmu he (by simp) (fun k hk => setRow_other w g k _ hk) ⟨_, ty, setRow_heap w g arr _ ty _ hg, by rw [hsz]; simp [Ev.put]; omega, fun j a ea => ?_⟩⟩
  simp only [List.getElem?_toArray]
  simp only [Ev.put] at ea
  by_cases h1 : j < i
  · rw [List.append_assoc, List.getElem?_append_left (by simp; omega), List.getElem?_take_of_lt h1] at ea
    obtain ⟨u, k1, k2, k3⟩ := hcs j a ea
    refine ⟨u, ?_, k2, k3.ext m.xo he⟩
    rw [List.append_assoc, List.getElem?_append_left (by simp; omega), List.getElem?_take_of_lt (by omega)]
    simpa using k1
  · by_cases h2 : j < i + vs.length
    · rw [List.getElem?_append_left (by simp; omega), List.getElem?_append_right (by simp; omega)] at ea
      have hj : j - i < us.length := by omega
      have ea' : vs[j - i]? = some a := by rw [← ea]; congr 1; simp; omega
      refine ⟨us[j - i], ?_, v3 _ _ (List.getElem?_eq_getElem hj), (v2 _ a _ ea' (List.getElem?_eq_getElem hj)).ext m.xo he⟩
      rw [List.getElem?_append_left (by simp; omega), List.getElem?_append_right (by simp; omega), ← List.getElem?_eq_getElem hj]
      congr 1
      simp
      omega
    · rw [List.getElem?_append_right (by simp; omega), List.getElem?_drop] at ea
      obtain ⟨u, k1, k2, k3⟩ := hcs j a (by rw [← ea]; congr 1; simp; omega)
      refine ⟨u, ?_, k2, k3.ext m.xo he⟩
      rw [List.getElem?_append_right (by simp; omega), List.getElem?_drop]
      have : arr.toList[o + j]? = some u := by simpa using k1
      rw [← this]
      congr 1
      simp
      omega

theorem run_setObj {g : Nat} {ents : Array MapEntry} {c : Nat} (h : w.heap[g]? = some (.map ents c)) (o : Obj) : (setObj g o).run P w = .ok () { w with heap := w.heap.setIfInBounds g o } := by
  simp [setObj, Sem.run, h]

theorem ext_map {g : Nat} {ents ents' : Array MapEntry} {c c' : Nat} (h : w.heap[g]? = some (.map ents c)) (hx : X g) : Ext w O X μ { w with heap := w.heap.setIfInBounds g (.map ents' c') } O X μ where
  mu _ _ _ h := h
  mu' _ _ _ h k := by rw [h] at k; cases k
  os := rfl
  tape := rfl
  output := rfl
  size := by simp
  block k _ hk := by
    show (w.heap.setIfInBounds g _)[k]? = _
    rw [Array.getElem?_setIfInBounds_ne (fun e => hk (by rw [← e]; exact hx))]
  shape k _ := by
    unfold World.shape?
    show (match (w.heap.setIfInBounds g _)[k]? with | some (.cells c elem _) => some (elem, c.size) | _ => none) = _
    by_cases e : k = g
    · subst e
      have hlt := (Array.getElem?_eq_some_iff.1 h).1
      rw [h]
      simp [hlt]
    · rw [Array.getElem?_setIfInBounds_ne (fun q => e q.symm)]
      rfl
  o _ h := h
  o' _ h := .inl h
  x _ h := h
  x' _ h := .inl h

theorem keyStays (k : IntKind) (n : Int) : (Instr.keyThatStays (.int k n) (.int k n)).run P w = .ok (.int k n) w := by
  unfold Instr.keyThatStays
  rw [show (10000 : Nat) = 9999 + 1 from rfl]
  simp [Instr.sameBits]

theorem lay_of_odd {v : AV} (h : oddVal v = false) : v.lay = some [v] := by
  cases v <;> first | rfl | (simp [oddVal] at h)

/-- m[k] = v. -/
theorem write_map (m : Mem P md w O X μ H L) {t kt et : TypeId} {kk : IntKind} (ht : P.underlying t = some (.map kt et)) (hkt : P.underlying kt = some (.int kk)) {l b : Nat} {es : List (AV × AV)} {mv kv vv : Value} {k : IntKind} {n : Int} {v : AV} {L' : Lv}
    (hm : Rep w O X μ (.mp l b) mv) (hb : getB H L l b = some (.map es)) (hk : kv = .int k n) (hv : Rep w O X μ v vv) {r : Option (Nat × AV)} (hf : findK (.int k n) es 0 = some r)
    (hs : setB H L l b (.map (match r with | some (i, _) => es.set i (.int k n, v) | none => es ++ [(.int k n, v)])) = some L') :
    ∃ w', (Instr.mapUpdate t mv kv vv).run P w = .ok () w' ∧ Ext w O X μ w' O X μ ∧ Mem P md w' O X μ H L' := by
  obtain ⟨rfl, hbl, rfl⟩ := setB_spec hs
  rw [getB_cur] at hb
  subst hk
  cases hm with
  | mp _ _ g o hmu =>
    obtain ⟨g', o', h1, hXg, ents, clock, hh, hlen, hents⟩ := m.cur b _ hb AB.map_live
    rw [hmu] at h1
    simp only [Option.some.injEq, Prod.mk.injEq] at h1
    obtain ⟨rfl, rfl⟩ := h1
    have hg : (getObj g).run P w = .ok (.map ents clock) w := by simp [getObj, Sem.run, hh]
    have hck := run_checkKey (P := P) (w := w) hkt false k n
    have hlt := (Array.getElem?_eq_some_iff.1 hh).1
    have pre : ∀ (q : Option (Nat × Value)), Instr.findNow (.int kk) (.int k n) ents.toList 0 = some q → (Instr.findKey kt (.int k n) ents.toList).run P w = .ok q w := by
      intro q hq
      unfold Instr.findKey
      simp only [Sem.run_bind, run_underlying hkt, Result.andThen_ok, hq, Sem.run_pure]
    have fin : ∀ (ents' : Array MapEntry) (c' : Nat) (es' : List (AV × AV)), ents'.size = es'.length → (∀ (i : Nat) (k v : AV) (e : MapEntry), es'[i]? = some (k, v) → ents'[i]? = some e → Rep w O X μ k e.key ∧ Rep w O X μ v e.val) →
        Ext w O X μ { w with heap := w.heap.setIfInBounds g (.map ents' c') } O X μ ∧ Mem P md { w with heap := w.heap.setIfInBounds g (.map ents' c') } O X μ H (L.set b (.map es')) := by
      intro ents' c' es' h2 h3
      have he := ext_map (O := O) (μ := μ) (ents' := ents') (c' := c') hh hXg
      refine ⟨he, m.set hb AB.map_live hmu he (by simp) (fun k hk => ?_) ⟨ents', c', ?_, h2, fun i k v e e1 e2 => ?_⟩⟩
      · show (w.heap.setIfInBounds g _)[k]? = _
        rw [Array.getElem?_setIfInBounds_ne (fun e => hk e.symm)]
      · show (w.heap.setIfInBounds g _)[g]? = _
        simp [hlt]
      · obtain ⟨k1, k2⟩ := h3 i k v e e1 e2
        exact ⟨k1.ext m.xo he, k2.ext m.xo he⟩
    rcases findNow_findK (w := w) (O := O) (X := X) (μ := μ) (a := .int k n) (b := .un) rfl es ents.toList 0 _ (by simpa using hlen) (fun i x v e e1 e2 => hents i x v e e1 (by simpa using e2)) hf with ⟨q1, q2⟩ | ⟨i1, v1, e1, q1, _, q3, ⟨en, q4, q5, q6, q7⟩, _⟩
    · subst q1
      refine ⟨_, ?_, fin (ents.push { key := .int k n, val := vv, born := clock }) (clock + 1) _ (by simp [hlen]) (fun i x y e ex ee => ?_)⟩
      · unfold Instr.mapUpdate
        simp only [Sem.run_bind, run_underlying ht, Result.andThen_ok, hg, hck, pre _ (q2 kk), run_setObj hh]
      · rw [Array.getElem?_push] at ee
        rw [List.getElem?_append] at ex
        split at ex
        · rename_i hi
          rw [if_neg (by omega)] at ee
          exact hents i x y e ex ee
        · rename_i hi
          have hi2 : i = es.length := by
            have := (List.getElem?_eq_some_iff.1 ex).1
            simp at this
            omega
          subst hi2
          rw [if_pos (by omega)] at ee
          simp at ex ee
          obtain ⟨rfl, rfl⟩ := ex
          subst ee
          exact ⟨.int _ _, hv⟩
    · subst q1
      simp only [Nat.sub_zero] at q3 q4
      refine ⟨_, ?_, fin (ents.modify i1 fun e => { e with key := .int k n, val := vv }) clock _ (by simp [hlen]) (fun i x y e ex ee => ?_)⟩
      · unfold Instr.mapUpdate
        simp only [Sem.run_bind, run_underlying ht, Result.andThen_ok, hg, hck, pre _ (q5 kk)]
        have q4' : ents[i1]? = some en := by simpa using q4
        simp only [q4', Option.map_some, Option.getD_some, q7, keyStays, Result.andThen_ok, run_setObj hh]
      · rw [Array.getElem?_modify] at ee
        rw [List.getElem?_set] at ex
        split at ex
        · rename_i hi
          subst hi
          split at ex
          · rw [if_pos rfl] at ee
            simp only [Option.map_eq_some_iff] at ee
            obtain ⟨e0, _, rfl⟩ := ee
            simp only [Option.some.injEq, Prod.mk.injEq] at ex
            obtain ⟨rfl, rfl⟩ := ex
            exact ⟨.int _ _, hv⟩
          · cases ex
        · rename_i hi
          rw [if_neg hi] at ee
          exact hents i x y e ex ee

end
end Go.Ev
